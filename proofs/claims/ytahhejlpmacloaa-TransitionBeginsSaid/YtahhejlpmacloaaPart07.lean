/- A program logic over abstract states, part L: one step, whatever the operation; a region. -/
import Derived.Test.YtahhejlpmacloaaPart06
namespace Go.Eng
open Go

def argsOf (s : St) : List Operand → Option (List Prop × List AV)
  | [] => some ([], [])
  | x :: l => match arg s x with
    | some (c, v) => match argsOf s l with
      | some (c', r) => some (c ++ c', v :: r)
      | none => none
    | none => none

def capAVs : List (Nat × Nat) → List AV
  | [] => []
  | (m, off) :: l => .one (.ptr m off) :: capAVs l

def namesP : List (Nat × Nat) → List Nat
  | [] => []
  | (m, _) :: l => m :: namesP l

def namesAC : AC → List Nat
  | .clo _ caps => namesP caps
  | .map m => [m]
  | .ptr m _ => [m]
  | .c _ => []
  | .nil => []
  | .own _ => []
  | .pst _ _ => []
  | .pow _ _ _ _ => []
  | .mel _ _ _ => []
  | .pel _ _ _ _ _ => []
  | .it _ => []
  | .any => []

def namesACs : List AC → List Nat
  | [] => []
  | a :: l => namesAC a ++ namesACs l

/-- The names that a piece of memory speaks of. -/
def namesRes : Res → List Nat
  | .box _ cells => namesACs cells
  | .mapR _ g _ _ => [g]
  | .rowR _ g _ _ => [g]
  | .row _ _ _ _ => []
  | .frz _ _ _ => []
  | .dead => []
  | .mapI _ _ _ => []
  | .grp _ _ _ => []
  | .iter _ _ _ _ => []

def addAll (ms : List Nat) : List Nat → List Nat
  | [] => ms
  | m :: l => match idxOf ms m 0 with
    | some _ => addAll ms l
    | none => addAll (ms ++ [m]) l

/-- With what is handed over goes whatever it leads to. -/
def reach (mem : List (Nat × Res)) : Nat → Nat → List Nat → List Nat
  | 0, _, ms => ms
  | f + 1, i, ms => match nth ms i with
    | none => ms
    | some m => match look mem m with
      | none => reach mem f (i + 1) ms
      | some r => reach mem f (i + 1) (addAll ms (namesRes r))

theorem addAll_ext : ∀ {l ms : List Nat}, ∃ t, addAll ms l = ms ++ t
  | [], ms => ⟨[], by simp [addAll]⟩
  | m :: l, ms => by
    simp only [addAll]
    split
    · exact addAll_ext
    · obtain ⟨t, e⟩ := addAll_ext (l := l) (ms := ms ++ [m])
      exact ⟨[m] ++ t, by rw [e]; simp⟩

theorem reach_ext {mem : List (Nat × Res)} : ∀ {f i : Nat} {ms : List Nat}, ∃ t, reach mem f i ms = ms ++ t
  | 0, i, ms => ⟨[], by simp [reach]⟩
  | f + 1, i, ms => by
    simp only [reach]
    split
    · exact ⟨[], by simp⟩
    · split
      · exact reach_ext
      · rename_i r _
        obtain ⟨t1, e1⟩ := addAll_ext (l := namesRes r) (ms := ms)
        obtain ⟨t2, e2⟩ := reach_ext (mem := mem) (f := f) (i := i + 1) (ms := addAll ms (namesRes r))
        exact ⟨t1 ++ t2, by rw [e2, e1]; simp⟩

def scalAC : AC → Bool
  | .c (.val _) => true
  | _ => false
def scalACs : List AC → Bool
  | [] => true
  | a :: l => match scalAC a with
    | true => scalACs l
    | false => false
def scalTs : List (Bool × List AC) → Bool
  | [] => true
  | (_, a) :: l => match scalACs a with
    | true => scalTs l
    | false => false
/-- A value that leads nowhere. -/
def scalAV : AV → Bool
  | .one a => scalAC a
  | .agg l => scalACs l
  | .tup l => scalTs l
  | .un => true
  | .gd _ _ => false

/-- A number, reckoned before it is handed on. -/
def forceN {β : Type} (x : Nat) (k : Nat → β) : β :=
  match x with
  | 0 => k 0
  | n + 1 => k (n + 1)
theorem forceN_eq {β : Type} (x : Nat) (k : Nat → β) : forceN x k = k x := by cases x <;> rfl
def forceL {β : Type} : List Nat → (List Nat → β) → β
  | [], k => k []
  | x :: l, k => forceN x fun x' => forceL l fun l' => k (x' :: l')
theorem forceL_eq {β : Type} : ∀ (l : List Nat) (k : List Nat → β), forceL l k = k l
  | [], _ => rfl
  | x :: l, k => by simp only [forceL, forceN_eq, forceL_eq l]

def callWith (sp : FSpec) (mem : List (Nat × Res)) (nb : Nat) (c : List Prop) (as : List AV) (d : List (Nat × Res)) (ms : List Nat) : Option Eff :=
  match locBoxes ms ms (d ++ mem) with
  | none => none
  | some (bs, d2) => match sp as bs with
    | none => none
    | some out => match bs, scalAV out.val, out.mem with
      | [], true, [] => some ⟨c ++ out.cond, out.val, []⟩
      | _, _, _ => match nodupB ms, keysLt (ms.length + 16) out.mem, allLive out.mem ms.length with
        | true, true, true => some ⟨c ++ out.cond, renAV (nameOf ms nb) out.val, renMem (nameOf ms nb) out.mem ++ (d2 ++ d)⟩
        | _, _, _ => none

/-- The rows that the arguments are. -/
def ownsOf : List AV → List Nat
  | [] => []
  | .one (.own m) :: l => m :: ownsOf l
  | _ :: l => ownsOf l

def callMode (sp : FSpec) (mem : List (Nat × Res)) (nb : Nat) (c : List Prop) (vs : List AV) (seed : List Nat) : Option Eff :=
  match argAVs seed mem vs with
  | none => none
  | some (as, ms0, d) => forceL (reach (d ++ mem) 24 0 ms0) (callWith sp mem nb c as d)

/-- A contract that takes rows as the caller's own gets them so; else they settle. -/
def callEff (G : List (Nat × FSpec)) (s : St) (nb : Nat) (f : Operand) (args : Array Operand) : Option Eff :=
  match arg s f with
  | some (c0, .one (.clo g caps)) => match look G g with
    | none => none
    | some sp => match argsOf s args.toList with
      | none => none
      | some (c1, vs) => match addAll [] (ownsOf vs) with
        | [] => callMode sp s.mem nb (c0 ++ c1) (vs ++ capAVs caps) []
        | m :: l => match callMode sp s.mem nb (c0 ++ c1) (vs ++ capAVs caps) (m :: l) with
          | some E => some E
          | none => callMode sp s.mem nb (c0 ++ c1) (vs ++ capAVs caps) []
  | _ => none

def Enters (P : Program) (g : Nat) : Prop := ∀ (vs : Array Value) (w : World), (callFunc g vs).run P w = .ok (.enter g vs) w

/-- The contracts that a proof leans on. -/
def GOK (P : Program) (G : List (Nat × FSpec)) : Prop := ∀ g sp, look G g = some sp → Enters P g ∧ Holds P g sp

section
variable {P : Program} {T : Tab} {w : World} {S : Nat → Prop} {μ : Mu}

theorem argsOf_ok {s : St} {a : Act} (he : repEnv w S μ s.env a.tmps) : ∀ {l : List Operand} {c : List Prop} {vs : List AV}, argsOf s l = some (c, vs) → All c → repAVs w S μ vs (l.map a.eval)
  | [], c, vs, h, _ => by
    simp only [argsOf, Option.some.injEq, Prod.mk.injEq] at h
    obtain ⟨rfl, rfl⟩ := h
    rfl
  | x :: l, c, vs, h, hc => by
    simp only [argsOf] at h
    split at h
    · rename_i c1 v hx
      split at h
      · rename_i c2 r hl
        simp only [Option.some.injEq, Prod.mk.injEq] at h
        obtain ⟨rfl, rfl⟩ := h
        obtain ⟨h1, h2⟩ := All.app hc
        exact ⟨_, _, rfl, rep_arg he hx h1, argsOf_ok he hl h2⟩
      · cases h
    · cases h

theorem capAVs_ok : ∀ {l : List (Nat × Nat)} {us : List Value}, repPtrs μ l us → repAVs w S μ (capAVs l) us
  | [], _, h => h
  | (_, _) :: _, _, ⟨b, r, h1, h2, h3⟩ => ⟨_, r, h1, ⟨b, h2, rfl⟩, capAVs_ok h3⟩

theorem repAVs_append : ∀ {l l' : List AV} {us us' : List Value}, repAVs w S μ l us → repAVs w S μ l' us' → repAVs w S μ (l ++ l') (us ++ us')
  | [], _, _, _, h, h' => by subst h; exact h'
  | _ :: _, _, _, us', ⟨u, r, e, h, hl⟩, h' => by
    subst e
    exact ⟨u, r ++ us', rfl, h, repAVs_append hl h'⟩

theorem rep_scalAC {w' : World} {S' : Nat → Prop} {μ' : Mu} {a : AC} {u : Value} (h : scalAC a = true) (hr : repAC w S μ a u) : repAC w' S' μ' a u := by
  cases a with
  | c x => cases x with
    | val v => exact hr
    | sl n sz get => simp [scalAC] at h
  | _ => simp [scalAC] at h
theorem rep_scalACs {w' : World} {S' : Nat → Prop} {μ' : Mu} : ∀ {l : List AC} {us : List Value}, scalACs l = true → reps w S μ l us → reps w' S' μ' l us
  | [], _, _, h => h
  | a :: l, _, hs, ⟨u, r, e, h, hl⟩ => by
    simp only [scalACs] at hs
    split at hs
    · rename_i ha
      exact ⟨u, r, e, rep_scalAC ha h, rep_scalACs hs hl⟩
    · cases hs
theorem rep_scalTs {w' : World} {S' : Nat → Prop} {μ' : Mu} : ∀ {l : List (Bool × List AC)} {us : List Value}, scalTs l = true → repTs w S μ l us → repTs w' S' μ' l us
  | [], _, _, h => h
  | (g, a) :: l, _, hs, ⟨cs, r, h, e, hl⟩ => by
    simp only [scalTs] at hs
    split at hs
    · rename_i ha
      exact ⟨cs, r, rep_scalACs ha h, e, rep_scalTs hs hl⟩
    · cases hs
theorem rep_scalAV {w' : World} {S' : Nat → Prop} {μ' : Mu} {v : AV} {u : Value} (h : scalAV v = true) (hr : repAV w S μ v u) : repAV w' S' μ' v u := by
  cases v with
  | one a => exact rep_scalAC h hr
  | agg l => obtain ⟨us, e, hl⟩ := hr; exact ⟨us, e, rep_scalACs h hl⟩
  | tup l => obtain ⟨us, e, hl⟩ := hr; exact ⟨us, e, rep_scalTs h hl⟩
  | un => trivial
  | gd b v => simp [scalAV] at h

theorem callMode_ok {G : List (Nat × FSpec)} (hG : GOK P G) {o : Oper} {s : St} {nb : Nat} {f : Operand} {args : Array Operand} {ats : Array TypeId} (ho : o.op = .call { callee := .value f, args, argTypes := ats }) {E : Eff} {c0 c1 : List Prop} {g : Nat} {caps : List (Nat × Nat)} {sp : FSpec} {vs : List AV} {seed : List Nat}
    (hf : arg s f = some (c0, .one (.clo g caps))) (hsp : look G g = some sp) (hvs : argsOf s args.toList = some (c1, vs)) (h : callMode sp s.mem nb (c0 ++ c1) (vs ++ capAVs caps) seed = some E) :
    StepOK P o s E (fun m => nb ≤ m ∧ m < nb + 16) := by
  unfold callMode at h
  split at h
  · cases h
  rename_i as ms0 d has
  rw [forceL_eq] at h
  unfold callWith at h
  split at h
  · cases h
  rename_i bs d2 hbs
  split at h
  · cases h
  rename_i out hout
  obtain ⟨t, hext⟩ := reach_ext (mem := d ++ s.mem) (f := 24) (i := 0) (ms := ms0)
  generalize hmsd : reach (d ++ s.mem) 24 0 ms0 = ms at h hbs hext
  -- the call itself
  have run : ∀ {c2 : List Prop}, c2 = out.cond → All (c0 ++ c1 ++ c2) → ms.Nodup → ∀ (F : Fr) (w : World) (S : Nat → Prop) (μ : Mu) (a : Act), Wp F w S μ s.mem → repEnv w S μ s.env a.tmps → ∀ (K : Act → World → Prop) (Q : Exit → Act → World → Prop),
      (∀ S2 w' u S' μl, (∀ b, S b → S2 b) → Wp F w S2 μ (d2 ++ (d ++ s.mem)) → bs.length = ms.length → (∀ (j m : Nat), ms[j]? = some m → ∃ (r : Res) (v : Value), look (d2 ++ (d ++ s.mem)) m = some r ∧ r.live = true ∧ μ m = some v) → Kp w w' S2 S' (locμ μ ms) μl →
        Wp (frOf w S2 (locμ μ ms) bs.length) w' S' μl out.mem → repAV w' S' μl out.val u → (∀ m, bs.length + 16 ≤ m → μl m = none) → K (a.put o.dst u) w') → o.wp P a w K Q := by
    intro c2 hc2e hc hnd F w S μ a hw he K Q hK
    subst hc2e
    obtain ⟨hc01, hc2⟩ := All.app hc
    obtain ⟨hc0, hc1⟩ := All.app hc01
    obtain ⟨hen, hho⟩ := hG g sp hsp
    obtain ⟨us, hfe, hp⟩ := rep_arg he hf hc0
    have hav := repAVs_append (argsOf_ok he hvs hc1) (capAVs_ok (w := w) (S := S) hp)
    obtain ⟨S1, s1, w1, _, r1⟩ := argAVs_ok hw hav has
    obtain ⟨S2, s2, w2, l2, r2⟩ := locBoxes_ok (k := 0) w1 hbs (by simp)
    simp only [Nat.zero_add] at r2
    have k2 : Kp w w S1 S2 (locμ μ ms0) (locμ μ ms) := ⟨s2, fun _ _ => rfl, by rw [hext]; exact locμ_ext ms0 t⟩
    have keepAll : ∀ {l : List AV} {r : List Value}, repAVs w S1 (locμ μ ms0) l r → repAVs w S2 (locμ μ ms) l r := by
      intro l
      induction l with
      | nil => intro r h; exact h
      | cons x l ih => rintro r ⟨u, r', e, h, hl⟩; exact ⟨u, r', e, k2.av _ _ h, ih hl⟩
    have hloc := w2.loc hnd l2 r2
    have hcall := hho as bs out hout hc2 w S2 (locμ μ ms) (args.toList.map a.eval ++ us) hloc (keepAll r1) (fun m hm => by
      unfold locμ
      rw [List.getElem?_eq_none (by omega)])
    have hargs : args.map a.eval ++ us.toArray = (args.toList.map a.eval ++ us).toArray := by apply Array.ext'; simp
    have hrun : (execOp a.eval o).run P w = .ok (.enter g (args.toList.map a.eval ++ us).toArray) w := by
      simp only [execOp, ho]
      rw [Sem.run_bind]
      simp only [resolve, hfe, Deferred.ofValue, Sem.run_pure, Result.andThen_ok, invoke]
      rw [show (#[] ++ args.map a.eval : Array Value) = args.map a.eval from by simp, hargs]
      exact hen _ w
    unfold Oper.wp
    rw [hrun]
    refine Calls.mono hcall ?_
    rintro e w' ⟨u, S', μl, rfl, kl, hwl, hvl, hμl⟩
    refine hK S2 w' u S' μl (fun b hb => s2 b (s1 b hb)) w2 l2 (fun j m hj => ?_) kl hwl hvl hμl
    obtain ⟨r, r', g1, g2, _, _, _⟩ := r2 j m hj
    obtain ⟨v, hv⟩ := w2.mu_some g1 (isCont_live g2)
    exact ⟨r, v, g1, isCont_live g2, hv⟩
  split at h
  · rename_i hsc hom
    simp only [Option.some.injEq] at h
    subst h
    intro F w S μ a hw he hnb hc K Q hK
    have hms : ms = [] := by
      obtain ⟨_, _, _, l2, _⟩ := locBoxes_ok (k := 0) (argAVs_ok hw (repAVs_append (argsOf_ok he hvs (All.app (All.app hc).1).2) (capAVs_ok (w := w) (S := S) (rep_arg he hf (All.app (All.app hc).1).1).choose_spec.2)) has).choose_spec.2.1 hbs (by simp)
      exact List.length_eq_zero_iff.1 l2.symm
    refine run rfl hc (by rw [hms]; exact List.nodup_nil) F w S μ a hw he K Q fun S2 w' u S' μl hsub w2 hlen _ kl hwl hvl _ => ?_
    have hold : ∀ b, b < w.heap.size → w'.heap[b]? = w.heap[b]? := fun b hb => hwl.grow.block b hb (by
      rintro ⟨j, v, hv, _⟩
      have hv : locμ μ ms j = some v := hv
      rw [hms] at hv
      simp [locμ] at hv)
    have k : Kp w w' S S μ μ := ⟨fun _ h => h, fun b hb => hold b (hw.Sb b hb), fun _ _ h => h⟩
    refine hK u w' S μ k ?_ (rep_scalAV hsc hvl) (fun _ _ => rfl)
    refine Wp.upd (fun _ => False) (fun _ => False) hw k hwl.grow.os hwl.grow.tape hwl.grow.output hwl.grow.size (fun b hb _ => hold b hb) (fun _ hb => hb.elim) (fun b hb => Nat.lt_of_lt_of_le (hw.Sb b hb) hwl.grow.size) (fun _ hb => .inl hb) (fun _ _ => rfl) ?_ ?_ ?_ ?_ ?_
    · intro m b _ hO; exact ⟨id, (hw.sep m b hO).1⟩
    all_goals intros; contradiction
  · split at h
    · rename_i hnd hkl hal
      simp only [Option.some.injEq] at h
      subst h
      intro F w S μ a hw he hnb hc K Q hK
      have hnd' := nodupB_ok hnd
      refine run rfl hc hnd' F w S μ a hw he K Q fun S2 w' u S' μl hsub w2 hlen hlv kl hwl hvl hμl => ?_
      obtain ⟨μ', hf', kp, hwf, hold⟩ := w2.called (nb := nb) hnd' hlv (fun m h1 h2 => hnb m ⟨h1, h2⟩) kl hwl (keysLt_ok hkl) (allLive_ok hal) (fun m hm => hμl m (by rw [hlen]; exact hm))
      have k0 : Kp w w S S2 μ μ := ⟨hsub, fun _ _ => rfl, fun _ _ h => h⟩
      refine hK u w' S' μ' (k0.trans kp) ?_ (ren_av hf' hvl) hold
      simpa [List.append_assoc] using hwf
    · cases h

theorem call_ok {G : List (Nat × FSpec)} (hG : GOK P G) {o : Oper} {s : St} {nb : Nat} {f : Operand} {args : Array Operand} {ats : Array TypeId} (ho : o.op = .call { callee := .value f, args, argTypes := ats }) {E : Eff} (h : callEff G s nb f args = some E) :
    StepOK P o s E (fun m => nb ≤ m ∧ m < nb + 16) := by
  unfold callEff at h
  split at h
  rotate_left
  · cases h
  rename_i c0 g caps hf
  split at h
  · cases h
  rename_i sp hsp
  split at h
  · cases h
  rename_i c1 vs hvs
  split at h
  · exact callMode_ok hG ho hf hsp hvs h
  · split at h
    · rename_i E' hE'
      injection h with h
      subst h
      exact callMode_ok hG ho hf hsp hvs hE'
    · exact callMode_ok hG ho hf hsp hvs h

/-! ### one operation -/
def moveEff (s : St) (x : Operand) : Option Eff :=
  match opnd s x with
  | some v => some ⟨[], v, []⟩
  | none => none

theorem move_ok {o : Oper} {s : St} {x : Operand} (ho : o.op = .move x ∨ o.op = .assign x) {E : Eff} (h : moveEff s x = some E) : PureOK P o s E := by
  unfold moveEff at h
  split at h
  · rename_i v hv
    simp only [Option.some.injEq] at h
    subst h
    refine PureOK.of rfl fun w S μ F act hw he hc => ?_
    refine ⟨act.eval x, ?_, rep_opnd he hv⟩
    rcases ho with ho | ho <;> simp [execOp, ho]
  · cases h

def binEff (T : Tab) (s : St) (op : BinOp) (t : Nat) (x y : Operand) : Option Eff :=
  match arg s x with
  | none => none
  | some (c, v) => match arg s y with
    | none => none
    | some (c', v') => match scalOf v with
      | none => none
      | some a => match scalOf v' with
        | none => none
        | some b => match scalBin T op t a b with
          | none => none
          | some (l, r) => some ⟨c ++ c' ++ l, sc r, []⟩

theorem bin_ok (hT : TabOK P T) {o : Oper} {s : St} {op : BinOp} {t : Nat} {x y : Operand} {t2 : TypeId} (ho : o.op = .binOp op t x y t2) {E : Eff} (h : binEff T s op t x y = some E) : PureOK P o s E := by
  unfold binEff at h
  split at h
  · cases h
  rename_i c v hx
  split at h
  · cases h
  rename_i c' v' hy
  split at h
  · cases h
  rename_i a ha
  split at h
  · cases h
  rename_i b hb
  split at h
  · cases h
  rename_i l r hr
  simp only [Option.some.injEq] at h
  subst h
  refine PureOK.of rfl fun w S μ F act hw he hc => ?_
  obtain ⟨hc12, hc3⟩ := All.app hc
  obtain ⟨hc1, hc2⟩ := All.app hc12
  have hxe := (rep_scalOf ha (rep_arg he hx hc1)).1
  have hye := (rep_scalOf hb (rep_arg he hy hc2)).1
  obtain ⟨h1, h2⟩ := scalBin_run hT hr hc3 w x y
  refine ⟨r, ?_, rfl, h2⟩
  simp only [execOp, ho, hxe, hye]
  rw [Sem.run_bind, h1]
  rfl

def unEff (s : St) (op : UnOp) (x : Operand) : Option Eff :=
  match arg s x with
  | none => none
  | some (c, v) => match scalOf v with
    | none => none
    | some a => match scalUn op a with
      | none => none
      | some r => some ⟨c, sc r, []⟩

theorem un_ok {o : Oper} {s : St} {op : UnOp} {t : Nat} {x : Operand} (ho : o.op = .unOp op t x) {E : Eff} (h : unEff s op x = some E) : PureOK P o s E := by
  unfold unEff at h
  split at h
  · cases h
  rename_i c v hx
  split at h
  · cases h
  rename_i a ha
  split at h
  · cases h
  rename_i r hr
  simp only [Option.some.injEq] at h
  subst h
  refine PureOK.of rfl fun w S μ F act hw he hc => ?_
  have hxe := (rep_scalOf ha (rep_arg he hx hc)).1
  obtain ⟨h1, h2⟩ := scalUn_run (P := P) hr w
  refine ⟨r, ?_, rfl, h2⟩
  simp [execOp, ho, hxe, h1]

def convEff (T : Tab) (s : St) (a b : Nat) (x : Operand) : Option Eff :=
  match arg s x with
  | none => none
  | some (c, v) => match scalOf v with
    | none => none
    | some u => match scalConv T a b u with
      | none => none
      | some r => some ⟨c, sc r, []⟩

theorem conv_ok (hT : TabOK P T) {o : Oper} {s : St} {a b : Nat} {x : Operand} (ho : o.op = .convert a b x) {E : Eff} (h : convEff T s a b x = some E) : PureOK P o s E := by
  unfold convEff at h
  split at h
  · cases h
  rename_i c v hx
  split at h
  · cases h
  rename_i u hu
  split at h
  · cases h
  rename_i r hr
  simp only [Option.some.injEq] at h
  subst h
  refine PureOK.of rfl fun w S μ F act hw he hc => ?_
  have hxe := (rep_scalOf hu (rep_arg he hx hc)).1
  obtain ⟨h1, h2⟩ := scalConv_run hT hr w
  refine ⟨r, ?_, rfl, h2⟩
  simp [execOp, ho, hxe, h1]

/-- One operation; nb: the first of the sixteen names that it may take. -/
def opEff (T : Tab) (G : List (Nat × FSpec)) (s : St) (nb : Nat) (op : Op) : Option Eff :=
  match op with
  | .move x => moveEff s x
  | .assign x => moveEff s x
  | .pick c a b => pick s c a b
  | .alloc t => allocEff T nb t
  | .box t x => boxEff s nb t x
  | .build t ps => buildEff T s t ps
  | .buildSlice t n ps => buildSliceEff T s nb t n ps
  | .load t x => orE (loadEff T s t x) (loadR T s t x)
  | .store t x v => orE (storeEff T s t x v) (storeR T s nb t x v)
  | .nilCheck x => nilCheckEff s x
  | .binOp op t x y _ => binEff T s op t x y
  | .unOp op _ x => unEff s op x
  | .convert a b x => convEff T s a b x
  | .makeFunc f first caps => makeFuncEff s f first caps
  | .slice t x lo hi mx => sliceEff T s t x lo hi mx
  | .fieldAddr t x f => fieldAddrEff T s t x f
  | .field t x f => fieldEff T s t x f
  | .indexAddr t x i => orE (indexAddrEff T s t x i) (indexR T s t x i)
  | .extract x i => extractEff s x i
  | .call ⟨.value f, args, _⟩ => callEff G s nb f args
  | .call ⟨.builtin .len, ⟨[x]⟩, ⟨[t]⟩⟩ => orE (lenEff T s t x) (lenR T s t x)
  | .call ⟨.builtin .append, ⟨[x, y]⟩, ⟨[t, t2]⟩⟩ => orE (appendEff T s nb t t2 x y) (appendR T s nb t t2 x y)
  | .makeMap t r => makeMapEff T nb t r
  | .lookup t x k ok => lookupEff T s t x k ok
  | .mapUpdate t x k v => orE (updateEff T s t x k v) (updateR T s nb t x k v)
  | .insert t x k v => updateEff T s t x k v
  | .makeSlice t x y => makeRows T s nb t x y
  | .range t x => rangeEff T s nb t x
  | .index t x i => strIndexEff T s t x i
  | .call ⟨.builtin .max, ⟨[x, y]⟩, _⟩ => mmEff s true x y
  | .call ⟨.builtin .min, ⟨[x, y]⟩, _⟩ => mmEff s false x y
  | .call ⟨.builtin .delete, ⟨[x, k]⟩, ⟨[t, _]⟩⟩ => deleteEff T s t x k
  | _ => none

theorem opEff_ok (hT : TabOK P T) {G : List (Nat × FSpec)} (hG : GOK P G) {o : Oper} {s : St} {nb : Nat} {E : Eff} (h : opEff T G s nb o.op = some E) : StepOK P o s E (fun m => nb ≤ m ∧ m < nb + 16) := by
  have up : ∀ {q : Nat → Prop}, (∀ m, q m → nb ≤ m ∧ m < nb + 16) → StepOK P o s E q → StepOK P o s E (fun m => nb ≤ m ∧ m < nb + 16) := by
    intro q hq hs F w S μ a hw he hnb hc K Q hK
    exact hs F w S μ a hw he (fun m hm => hnb m (hq m hm)) hc K Q (fun u w' S' μ' k hw' hv hm => hK u w' S' μ' k hw' hv (fun m hn => hm m (fun hqm => hn (hq m hqm))))
  have one : ∀ m, m = nb → nb ≤ m ∧ m < nb + 16 := fun m hm => by omega
  unfold opEff at h
  split at h
  all_goals rename_i ho
  · exact (move_ok (.inl ho) h).step _
  · exact (move_ok (.inr ho) h).step _
  · exact (pick_ok ho h).step _
  · exact up one (alloc_ok hT ho h)
  · exact up one (box_ok ho h)
  · exact (build_ok hT ho h).step _
  · exact up one (buildSlice_ok hT ho h)
  · rcases orE_cases h with h | h
    · exact (load_ok hT ho h).step _
    · exact (loadR_ok hT ho h).step _
  · rcases orE_cases h with h | h
    · exact up (fun _ h => h.elim) (store_ok hT ho h)
    · exact up one (storeR_ok hT ho h)
  · exact (nilCheck_ok ho h).step _
  · exact (bin_ok hT ho h).step _
  · exact (un_ok ho h).step _
  · exact (conv_ok hT ho h).step _
  · exact (makeFunc_ok ho h).step _
  · exact (slice_ok hT ho h).step _
  · exact (fieldAddr_ok hT ho h).step _
  · exact (field_ok hT ho h).step _
  · rcases orE_cases h with h | h
    · exact (indexAddr_ok hT ho h).step _
    · exact (indexR_ok hT ho h).step _
  · exact (extract_ok ho h).step _
  · exact call_ok hG ho h
  · rcases orE_cases h with h | h
    · exact (len_ok hT ho h).step _
    · exact (lenR_ok hT ho h).step _
  · rcases orE_cases h with h | h
    · exact up one (append_ok hT ho h)
    · exact up (fun m hm => by omega) (appendR_ok hT ho h)
  · exact up (fun m hm => by omega) (makeMap_ok ho h)
  · exact (lookup_ok hT ho h).step _
  · rcases orE_cases h with h | h
    · exact up (fun _ h => h.elim) (update_ok hT (.inl ho) h)
    · exact up (fun m hm => by omega) (updateR_ok hT ho h)
  · exact up (fun _ h => h.elim) (update_ok hT (.inr ho) h)
  · exact up (fun m hm => by omega) (makeRows_ok hT ho h)
  · exact up one (range_ok hT ho h)
  · exact (strIndex_ok hT ho h).step _
  · exact (max_ok ho h).step _
  · exact (min_ok ho h).step _
  · exact up (fun _ h => h.elim) (delete_ok hT ho h)
  · cases h
end
end Go.Eng

/- A program logic over abstract states, part M: guards; a region in the order of its text. -/
namespace Go.Eng
open Go

/-- Is an operation under a guard done? The guard's slot tells. -/
def guardB (s : St) (d : Nat) (want : Bool) : Option Bool :=
  match look s.env d with
  | some (.one (.c (.val (.bool b)))) => some (match want with | true => b | false => !b)
  | some (.gd a (.one (.c (.val (.bool b))))) => some (a && (match want with | true => b | false => !b))
  | _ => none

theorem guardB_ok {w : World} {S : Nat → Prop} {μ : Mu} {s : St} {tm : Array Value} (he : repEnv w S μ s.env tm) {d : Nat} (hd : d < tm.size) {want g : Bool} (h : guardB s d want = some g) :
    (match tm[d]? with | some (.bool b) => some b | _ => none : Option Bool) = some want ↔ g = true := by
  have hg : tm.getD d undef = tm[d] := by simp [Array.getD, hd]
  rw [Array.getElem?_eq_getElem hd]
  unfold guardB at h
  split at h
  · rename_i b hl
    have hr := he d _ hl
    rw [hg] at hr
    rw [hr.1]
    simp only [Option.some.injEq] at h
    subst h
    cases want <;> cases b <;> simp
  · rename_i a b hl
    have hr := he d _ hl
    rw [hg] at hr
    simp only [Option.some.injEq] at h
    subst h
    cases a with
    | true =>
      rw [(hr.1 rfl).1]
      cases want <;> cases b <;> simp
    | false =>
      rw [hr.2 rfl]
      simp [undef]
  · cases h

/-- 'if g then x else y' of two cells of a box. -/
def mergeAC (g : Bool) : AC → AC → List Prop × AC
  | .c (.val (.int k x)), .c (.val (.int k' y)) => ([k = k'], .c (.val (.int k (if g = true then x else y))))
  | .c (.val (.bool x)), .c (.val (.bool y)) => ([], .c (.val (.bool (if g = true then x else y))))
  | a, b => ([a = b], b)

def mergeACs (g : Bool) : List AC → List AC → Option (List Prop × List AC)
  | [], [] => some ([], [])
  | a :: l, b :: l' => match mergeACs g l l' with
    | some (c, r) => match mergeAC g a b with
      | (c', x) => some (c' ++ c, x :: r)
    | none => none
  | _, _ => none

/-- What is done only under g: boxes alone may have changed. -/
def mergeMem (g : Bool) (mem : List (Nat × Res)) : List (Nat × Res) → Option (List Prop × List (Nat × Res))
  | [] => some ([], [])
  | (m, .box ty cells) :: l => match look mem m with
    | some (.box ty' cells') => match Nat.beq ty ty' with
      | true => match mergeACs g cells cells' with
        | some (c, r) => match mergeMem g mem l with
          | some (c', l') => some (c ++ c', (m, .box ty r) :: l')
          | none => none
        | none => none
      | false => none
    | _ => none
  | (m, r) :: l => match look mem m with
    | some r' => match mergeMem g mem l with
      | some (c, l') => some ([r = r'] ++ c, (m, r') :: l')
      | none => none
    | none => none

/-- A value that is there only under g. -/
def gdV (g : Bool) : AV → AV
  | .gd b v => .gd (g && b) v
  | v => .gd g v

theorem gdV_true {w : World} {S : Nat → Prop} {μ : Mu} {v : AV} {u : Value} (h : repAV w S μ v u) : repAV w S μ (gdV true v) u := by
  cases v with
  | gd b v => simpa [gdV] using h
  | _ => exact ⟨fun _ => h, (fun h => by cases h)⟩
theorem gdV_false {w : World} {S : Nat → Prop} {μ : Mu} {v : AV} : repAV w S μ (gdV false v) undef := by
  cases v with
  | gd b v => exact ⟨(fun h => by simp at h), fun _ => rfl⟩
  | _ => exact ⟨(fun h => by cases h), fun _ => rfl⟩

def guarded (g : Bool) (s : St) (E : Eff) : Option Eff :=
  match mergeMem g s.mem E.mem with
  | some (c, mem) => some ⟨[g = true → All E.cond] ++ c, gdV g E.val, mem⟩
  | none => none

theorem mergeAC_true {a b : AC} (h : All (mergeAC true a b).1) : (mergeAC true a b).2 = a := by
  unfold mergeAC at h ⊢
  split at h
  · obtain ⟨rfl, _⟩ := h
    simp
  · simp
  · rename_i h1 h2
    obtain ⟨h, _⟩ := h
    subst h
    rfl
theorem mergeAC_false {a b : AC} (h : All (mergeAC false a b).1) : (mergeAC false a b).2 = b := by
  unfold mergeAC at h ⊢
  split at h
  · obtain ⟨rfl, _⟩ := h
    simp
  · simp
  · rename_i h1 h2
    obtain ⟨h, _⟩ := h
    subst h
    rfl

theorem mergeACs_true : ∀ {l l' r : List AC} {c : List Prop}, mergeACs true l l' = some (c, r) → All c → r = l
  | [], [], r, c, h, _ => by
    simp only [mergeACs, Option.some.injEq, Prod.mk.injEq] at h
    exact h.2.symm
  | a :: l, b :: l', r, c, h, hc => by
    simp only [mergeACs] at h
    split at h
    · rename_i c1 r1 h1
      rcases hm : mergeAC true a b with ⟨c2, x⟩
      simp only [hm, Option.some.injEq, Prod.mk.injEq] at h
      obtain ⟨rfl, rfl⟩ := h
      obtain ⟨g1, g2⟩ := All.app hc
      have e1 := mergeAC_true (a := a) (b := b) (by rw [hm]; exact g1)
      rw [hm] at e1
      rw [mergeACs_true h1 g2]
      exact congrArg (· :: l) e1
    · cases h
  | [], _ :: _, r, c, h, _ => by simp [mergeACs] at h
  | _ :: _, [], r, c, h, _ => by simp [mergeACs] at h
theorem mergeACs_false : ∀ {l l' r : List AC} {c : List Prop}, mergeACs false l l' = some (c, r) → All c → r = l'
  | [], [], r, c, h, _ => by
    simp only [mergeACs, Option.some.injEq, Prod.mk.injEq] at h
    exact h.2.symm
  | a :: l, b :: l', r, c, h, hc => by
    simp only [mergeACs] at h
    split at h
    · rename_i c1 r1 h1
      rcases hm : mergeAC false a b with ⟨c2, x⟩
      simp only [hm, Option.some.injEq, Prod.mk.injEq] at h
      obtain ⟨rfl, rfl⟩ := h
      obtain ⟨g1, g2⟩ := All.app hc
      have e1 := mergeAC_false (a := a) (b := b) (by rw [hm]; exact g1)
      rw [hm] at e1
      rw [mergeACs_false h1 g2]
      exact congrArg (· :: l') e1
    · cases h
  | [], _ :: _, r, c, h, _ => by simp [mergeACs] at h
  | _ :: _, [], r, c, h, _ => by simp [mergeACs] at h

theorem mergeMem_true {mem : List (Nat × Res)} : ∀ {M r : List (Nat × Res)} {c : List Prop}, mergeMem true mem M = some (c, r) → All c → r = M
  | [], r, c, h, _ => by
    simp only [mergeMem, Option.some.injEq, Prod.mk.injEq] at h
    exact h.2.symm
  | (m, .box ty cells) :: l, r, c, h, hc => by
    simp only [mergeMem] at h
    split at h
    · split at h
      · split at h
        · rename_i c1 r1 h1
          split at h
          · rename_i c2 l2 h2
            simp only [Option.some.injEq, Prod.mk.injEq] at h
            obtain ⟨rfl, rfl⟩ := h
            obtain ⟨g1, g2⟩ := All.app hc
            rw [mergeACs_true h1 g1, mergeMem_true h2 g2]
          · cases h
        · cases h
      · cases h
    · cases h
  | (m, .row _ _ _ _) :: l, r, c, h, hc | (m, .frz _ _ _) :: l, r, c, h, hc | (m, .dead) :: l, r, c, h, hc | (m, .mapI _ _ _) :: l, r, c, h, hc | (m, .mapR _ _ _ _) :: l, r, c, h, hc
  | (m, .grp _ _ _) :: l, r, c, h, hc | (m, .rowR _ _ _ _) :: l, r, c, h, hc | (m, .iter _ _ _ _) :: l, r, c, h, hc => by
    simp only [mergeMem] at h
    split at h
    · split at h
      · rename_i c1 l1 h1
        simp only [Option.some.injEq, Prod.mk.injEq] at h
        obtain ⟨rfl, rfl⟩ := h
        obtain ⟨g1, g2⟩ := hc
        rw [mergeMem_true h1 g2, ← g1]
      · cases h
    · cases h

/-- Told again what is told already: nothing changes. -/
theorem mergeMem_false {mem : List (Nat × Res)} : ∀ {M r : List (Nat × Res)} {c : List Prop}, mergeMem false mem M = some (c, r) → All c → ∀ m, look (r ++ mem) m = look mem m
  | [], r, c, h, _, m => by
    simp only [mergeMem, Option.some.injEq, Prod.mk.injEq] at h
    obtain ⟨rfl, rfl⟩ := h
    rfl
  | (m', .box ty cells) :: l, r, c, h, hc, m => by
    simp only [mergeMem] at h
    split at h
    · rename_i ty' cells' hl
      split at h
      · rename_i hty
        split at h
        · rename_i c1 r1 h1
          split at h
          · rename_i c2 l2 h2
            simp only [Option.some.injEq, Prod.mk.injEq] at h
            obtain ⟨rfl, rfl⟩ := h
            obtain ⟨g1, g2⟩ := All.app hc
            rw [mergeACs_false h1 g1, List.cons_append, look_cons]
            split
            · rename_i e
              subst e
              rw [hl, Nat.eq_of_beq_eq_true hty]
            · exact mergeMem_false h2 g2 m
          · cases h
        · cases h
      · cases h
    · cases h
  | (m', .row _ _ _ _) :: l, r, c, h, hc, m | (m', .frz _ _ _) :: l, r, c, h, hc, m | (m', .dead) :: l, r, c, h, hc, m | (m', .mapI _ _ _) :: l, r, c, h, hc, m | (m', .mapR _ _ _ _) :: l, r, c, h, hc, m
  | (m', .grp _ _ _) :: l, r, c, h, hc, m | (m', .rowR _ _ _ _) :: l, r, c, h, hc, m | (m', .iter _ _ _ _) :: l, r, c, h, hc, m => by
    simp only [mergeMem] at h
    split at h
    · rename_i r' hl
      split at h
      · rename_i c1 l1 h1
        simp only [Option.some.injEq, Prod.mk.injEq] at h
        obtain ⟨rfl, rfl⟩ := h
        obtain ⟨g1, g2⟩ := hc
        rw [List.cons_append, look_cons]
        split
        · rename_i e
          subst e
          exact hl.symm
        · exact mergeMem_false h1 g2 m
      · cases h
    · cases h

theorem Wp.same {F : Fr} {w : World} {S : Nat → Prop} {μ : Mu} {mem mem' : List (Nat × Res)} (h : Wp F w S μ mem) (e : ∀ m, look mem' m = look mem m) : Wp F w S μ mem' := by
  have ho : ∀ m b, Owns μ mem' m b → Owns μ mem m b := by
    rintro m b ⟨r, v, h1, h2⟩
    exact ⟨r, v, by rw [← e]; exact h1, h2⟩
  exact ⟨h.grow, h.Sb, h.Sn, h.Sf, fun m r hl => h.res m r (by rw [← e]; exact hl), fun m b hO => h.sep m b (ho m b hO), fun m m' b h1 h2 => h.dis m m' b (ho m b h1) (ho m' b h2)⟩

/-- The state s tells of the act and the world; no name from nx on is in use. -/
def RelN (F : Fr) (N nx : Nat) (s : St) (a : Act) (w : World) : Prop := Rel F N (fun m => nx ≤ m) s a w

def dstOf (ops : List Oper) (j : Nat) : Option Nat :=
  match nth ops j with
  | some o => o.dst
  | none => none

/-- One operation of a region, its guard looked at. -/
def stepEff (T : Tab) (G : List (Nat × FSpec)) (N : Nat) (ops : List Oper) (s : St) (nb : Nat) (o : Oper) : Option Eff :=
  match dstOK N o.dst with
  | false => none
  | true => match o.guard with
    | none => opEff T G s nb o.op
    | some (j, want) => match dstOf ops j with
      | none => none
      | some d => match Nat.blt d N with
        | false => none
        | true => match guardB s d want with
          | none => none
          | some g => match opEff T G s nb o.op with
            | none => none
            | some E => guarded g s E

def runOps (T : Tab) (G : List (Nat × FSpec)) (N : Nat) (ops : List Oper) : List Oper → Nat → St → Option (List Prop × St)
  | [], _, s => some ([], s)
  | o :: l, nb, s => forceN nb fun nb => match stepEff T G N ops s nb o with
    | none => none
    | some E => match runOps T G N ops l (nb + 16) (s.app o.dst E) with
      | none => none
      | some (c, s') => some (E.cond ++ c, s')

section
variable {P : Program} {T : Tab} {F : Fr} {N : Nat}

/-- One operation, guard and all, in whatever order: what follows holds at the state that it leads to. -/
theorem stepEff_ok (hT : TabOK P T) {G : List (Nat × FSpec)} (hG : GOK P G) {ops : Array Oper} {o : Oper} {s : St} {nb : Nat} {E : Eff} (h : stepEff T G N ops.toList s nb o = some E)
    {w : World} {S : Nat → Prop} {μ : Mu} {a : Act} (hd : a.defers = []) (hN : a.tmps.size = N) (hw : Wp F w S μ s.mem) (he : repEnv w S μ s.env a.tmps) (hnb : ∀ m, nb ≤ m → m < nb + 16 → μ m = none) (hc : All E.cond)
    {next : Act → World → Prop} {Q : Exit → Act → World → Prop}
    (hK : ∀ a' w' S' μ', a'.defers = [] → a'.tmps.size = N → Wp F w' S' μ' (s.app o.dst E).mem → repEnv w' S' μ' (s.app o.dst E).env a'.tmps → (∀ m, ¬ (nb ≤ m ∧ m < nb + 16) → μ' m = μ m) → next a' w') :
    if Region.wanted o (yielded ops a.tmps) then o.wp P a w next Q ∨ (o.asks P a w ∧ LetsOut Q) else next (a.put o.dst undef) w := by
  unfold stepEff at h
  split at h
  · cases h
  rename_i hdst
  have put : ∀ {u : Value} {w' : World} {S' : Nat → Prop} {μ' : Mu} {E : Eff}, Kp w w' S S' μ μ' → Wp F w' S' μ' (E.mem ++ s.mem) → repAV w' S' μ' E.val u → (∀ m, ¬ (nb ≤ m ∧ m < nb + 16) → μ' m = μ m) →
      (∀ a' w' S' μ', a'.defers = [] → a'.tmps.size = N → Wp F w' S' μ' (s.app o.dst E).mem → repEnv w' S' μ' (s.app o.dst E).env a'.tmps → (∀ m, ¬ (nb ≤ m ∧ m < nb + 16) → μ' m = μ m) → next a' w') → next (a.put o.dst u) w' := by
    intro u w' S' μ' E k hw' hv hm hK
    refine hK _ w' S' μ' ?_ ?_ hw' ?_ hm
    · cases o.dst <;> exact hd
    · cases hdo : o.dst with
      | none => exact hN
      | some d => simpa [Act.put] using hN
    · cases hdo : o.dst with
      | none => exact repEnv_keep k he
      | some d =>
        rw [hdo] at hdst
        simp only [dstOK, Nat.blt_eq] at hdst
        exact repEnv_put k he (by rw [hN]; exact hdst) hv
  split at h
  · rename_i hg
    have hwt : Region.wanted o (yielded ops a.tmps) = true := by simp [Region.wanted, hg]
    rw [if_pos hwt]
    exact .inl (opEff_ok hT hG h F w S μ a hw he (fun m hm => hnb m hm.1 hm.2) hc next Q (fun u w' S' μ' k hw' hv hm => put k hw' hv hm hK))
  · rename_i j want hg
    split at h
    · cases h
    rename_i d hdj
    split at h
    · cases h
    rename_i hdN
    rw [Nat.blt_eq] at hdN
    split at h
    · cases h
    rename_i g hgb
    split at h
    · cases h
    rename_i E0 hE0
    unfold guarded at h
    split at h
    · rename_i c mem hmm
      simp only [Option.some.injEq] at h
      subst h
      obtain ⟨hc0, hc1⟩ := All.app hc
      have hcond : g = true → All E0.cond := hc0.1
      have hy : yielded ops a.tmps j = (match a.tmps[d]? with | some (.bool b) => some b | _ => none : Option Bool) := by
        have : (ops[j]?).bind (·.dst) = some d := by
          unfold dstOf at hdj
          rw [nth_eq] at hdj
          cases ho : ops[j]? with
          | none => simp [ho] at hdj
          | some o' => simp [ho] at hdj; simpa using hdj
        unfold yielded
        rw [this]
        rfl
      have hwt : Region.wanted o (yielded ops a.tmps) = true ↔ g = true := by
        rw [← guardB_ok he (by rw [hN]; exact hdN) hgb, ← hy]
        simp [Region.wanted, hg]
      cases hgv : g with
      | true =>
        subst hgv
        rw [if_pos (hwt.2 rfl)]
        have hmem : mem = E0.mem := mergeMem_true hmm hc1
        subst hmem
        refine .inl (opEff_ok hT hG hE0 F w S μ a hw he (fun m hm => hnb m hm.1 hm.2) (hcond rfl) next Q (fun u w' S' μ' k hw' hv hm => put k hw' (E := ⟨_, gdV true E0.val, E0.mem⟩) (gdV_true hv) hm hK))
      | false =>
        subst hgv
        rw [if_neg (fun hh => by have := hwt.1 hh; cases this)]
        exact put (E := ⟨_, gdV false E0.val, mem⟩) (Kp.refl w S μ) (hw.same (mergeMem_false hmm hc1)) gdV_false (fun _ _ => rfl) hK
    · cases h

theorem runOps_ok (hT : TabOK P T) {G : List (Nat × FSpec)} (hG : GOK P G) {ops : Array Oper} {Q : Exit → Act → World → Prop} : ∀ {l : List Oper} {i nb : Nat} {s s' : St} {c : List Prop}, runOps T G N ops.toList l nb s = some (c, s') → All c → ops.toList.drop i = l →
    ∀ {a : Act} {w : World}, RelN F N nb s a w → (∀ a' w', RelN F N (nb + 16 * l.length) s' a' w' → Q .normal a' w') → wpOps P ops Q (List.range' i l.length) a w
  | [], i, nb, s, s', c, h, hc, hdrop, a, w, hR, hQ => by
    simp only [runOps, Option.some.injEq, Prod.mk.injEq] at h
    obtain ⟨rfl, rfl⟩ := h
    simp only [List.length_nil, List.range'_zero, wpOps]
    exact hQ a w hR
  | o :: l, i, nb, s, s', c, h, hc, hdrop, a, w, hR, hQ => by
    simp only [runOps, forceN_eq] at h
    split at h
    · cases h
    rename_i E hE
    split at h
    · cases h
    rename_i c1 s1 h1
    simp only [Option.some.injEq, Prod.mk.injEq] at h
    obtain ⟨rfl, rfl⟩ := h
    obtain ⟨hc0, hc1⟩ := All.app hc
    have hi : ops[i]? = some o := by
      have := congrArg (fun l => l[0]?) hdrop
      simpa [List.getElem?_drop] using this
    have hdrop' : ops.toList.drop (i + 1) = l := by
      have := congrArg List.tail hdrop
      simpa using this
    rw [List.length_cons, List.range'_succ]
    simp only [wpOps, hi]
    obtain ⟨hdf, hN, hk, S, μ, hw, he, hU, hmu⟩ := hR
    exact stepEff_ok hT hG hE hdf hN hw he (fun m h1 _ => hU m h1) hc0 (fun a' w' S' μ' d1 d2 d3 d4 d5 => runOps_ok hT hG h1 hc1 hdrop' ⟨d1, d2, hk, S', μ', d3, d4, fun m hm => by
      have hm' : nb + 16 ≤ m := hm
      rw [d5 m (by omega)]
      exact hU m (show nb ≤ m by omega), fun j v hj => by
      have hv := hmu j v hj
      rw [d5 j (fun hf => by rw [hU j hf.1] at hv; cases hv)]
      exact hv⟩ (fun a' w' hR' => hQ a' w' (by rw [List.length_cons, show nb + 16 * (l.length + 1) = nb + 16 + 16 * l.length from by omega]; exact hR')))
end
end Go.Eng
