/- A program logic over abstract states, part Grp: an append to a row of a group, a row put in; slices of rows; min, max. -/
import Derived.Test.YtahhejlpmacloaaPart05
import Derived.Laws.OwnMore
namespace Go.Eng
open Go

section
variable {P : Program} {T : Tab}

def takeEff (mem : List (Nat × Res)) (d m g : Nat) (k : List Int) : Option (List (Nat × Res)) :=
  match look mem g with
  | some (.grp e sz f) => match look mem m with
    | some (.mapR n g' none a) => match Nat.beq g g' with
      | true => some [(d + 2, .row e sz (f k).1 (f k).2), (d + 1, .grp e sz (updF f k nilRow)), (m, .mapR n (d + 1) (some (k, d + 2)) a), (g, .dead)]
      | false => none
    | some (.rowR e' g' n none) => match Nat.beq g g' with
      | true => some [(d + 2, .row e sz (f k).1 (f k).2), (d + 1, .grp e sz (updF f k nilRow)), (m, .rowR e' (d + 1) n (some (k, d + 2))), (g, .dead)]
      | false => none
    | _ => none
  | _ => none

theorem take_ok {F : Fr} {w : World} {S : Nat → Prop} {μ : Mu} {mem dl : List (Nat × Res)} (h : Wp F w S μ mem) {m g d : Nat} {k : List Int} {u : Value} (hr : repAC w S μ (.mel m g k) u) (he : takeEff mem d m g k = some dl) (hd1 : μ (d + 1) = none) (hd2 : μ (d + 2) = none) :
    ∃ μ2 : Mu, Wp F w S μ2 (dl ++ mem) ∧ (∀ x v, μ x = some v → μ2 x = some v) ∧ repAC w S μ2 (.own (d + 2)) u ∧ ∀ x, x ≠ d + 1 → x ≠ d + 2 → μ2 x = μ x := by
  obtain ⟨l, hgl, rfl, hslc⟩ := hr
  have rest : ∀ {μ2 : Mu}, μ2 = setμ (setμ μ (d + 1) (encG (cutL l k))) (d + 2) (valAt l k) → (∃ A n c, valAt l k = .slice A n c) → repAC w S μ2 (.own (d + 2)) (valAt l k) ∧ ∀ x, x ≠ d + 1 → x ≠ d + 2 → μ2 x = μ x := by
    rintro μ2 rfl hs
    exact ⟨⟨setμ_same _ _ _, hs⟩, fun x h1 h2 => by rw [setμ_ne _ _ h2, setμ_ne _ _ h1]⟩
  unfold takeEff at he
  split at he
  rotate_left
  · cases he
  rename_i e sz f hg
  split at he
  · rename_i n g' a hm
    split at he
    rotate_left
    · cases he
    rename_i hb
    obtain rfl := Nat.eq_of_beq_eq_true hb
    simp only [Option.some.injEq] at he
    subst he
    obtain ⟨r, l', xs, hmu, hgl', hr, ⟨_, rfl, hes, hnil⟩, hlen, hwf⟩ := h.res m _ hm
    rw [hgl] at hgl'
    injection hgl' with hgl'
    obtain rfl := encG_inj hgl'
    have hgm : g ≠ m := by
      rintro rfl
      rw [hg] at hm
      cases hm
    obtain ⟨h1, h2, h3⟩ := h.takeOut (r' := .mapR n (d + 1) (some (k, d + 2)) a) (k := k) hg hgl hm rfl hgm hd1 hd2 (fun μ2 mo m1 m2 => ⟨r, cutL l k, xs, mo _ _ hmu, m1, hr, ⟨_, ⟨_, m2, rfl⟩, entsR_congr (valAt_hole l k) hes, fun k' hk' => by
      rw [valAt_hole]
      exact hnil k' hk'⟩, hlen, hwf⟩)
    obtain ⟨h4, h5⟩ := rest rfl h3
    exact ⟨_, h1, h2, h4, h5⟩
  · rename_i e' g' n hm
    split at he
    rotate_left
    · cases he
    rename_i hb
    obtain rfl := Nat.eq_of_beq_eq_true hb
    simp only [Option.some.injEq] at he
    subst he
    obtain ⟨v, l', xs, hmu, hgl', hown, _, rfl, hx⟩ := h.res m _ hm
    rw [hgl] at hgl'
    injection hgl' with hgl'
    obtain rfl := encG_inj hgl'
    have hgm : g ≠ m := by
      rintro rfl
      rw [hg] at hm
      cases hm
    obtain ⟨h1, h2, h3⟩ := h.takeOut (r' := .rowR e' (d + 1) n (some (k, d + 2))) (k := k) hg hgl hm rfl hgm hd1 hd2 (fun μ2 mo m1 m2 => ⟨v, cutL l k, xs, mo _ _ hmu, m1, hown, _, ⟨_, m2, rfl⟩, fun i' hi' => by
      rw [valAt_hole]
      exact hx i' hi'⟩)
    obtain ⟨h4, h5⟩ := rest rfl h3
    exact ⟨_, h1, h2, h4, h5⟩
  · cases he

/-- An append to a row of a group: the row is taken out. -/
def appendR (T : Tab) (s : St) (d t t2 : Nat) (x y : Operand) : Option Eff :=
  match x with
  | .tmp r => match look s.env r with
    | some (.one (.mel m g k)) => match takeEff s.mem d m g k with
      | some dl => match appendEff T ⟨(r, .one (.own (d + 2))) :: s.env, dl ++ s.mem⟩ d t t2 (.tmp r) y with
        | some E => some ⟨E.cond, E.val, E.mem ++ dl⟩
        | none => none
      | none => none
    | _ => none
  | _ => none

theorem appendR_ok (hT : TabOK P T) {o : Oper} {s : St} {d t t2 : Nat} {x y : Operand} (ho : o.op = .call { callee := .builtin .append, args := #[x, y], argTypes := #[t, t2] }) {E : Eff} (h : appendR T s d t t2 x y = some E) : StepOK P o s E (fun m => d ≤ m ∧ m < d + 3) := by
  unfold appendR at h
  split at h
  rotate_left
  · cases h
  rename_i r
  split at h
  rotate_left
  · cases h
  rename_i m g k hl
  split at h
  rotate_left
  · cases h
  rename_i dl hdl
  split at h
  rotate_left
  · cases h
  rename_i E2 hE2
  simp only [Option.some.injEq] at h
  subst h
  intro F w S μ a hw he hnb hc K Q hK
  obtain ⟨μ2, hw2, mo, hr2, hμ2⟩ := take_ok hw (he r _ hl) hdl (hnb (d + 1) ⟨by omega, by omega⟩) (hnb (d + 2) ⟨by omega, by omega⟩)
  have kp : Kp w w S S μ μ2 := ⟨fun _ h => h, fun _ _ => rfl, mo⟩
  have he2 : repEnv w S μ2 ((r, .one (.own (d + 2))) :: s.env) a.tmps := by
    intro i v hi
    rw [look_cons] at hi
    split at hi
    · rename_i e
      injection hi with hi
      subst e hi
      exact hr2
    · exact kp.av _ _ (he i v hi)
  refine append_ok hT ho hE2 F w S μ2 a hw2 he2 (fun m' hm' => ?_) hc K Q (fun u w' S' μ' k' hw' hv hm => ?_)
  · subst hm'
    rw [hμ2 _ (by omega) (by omega)]
    exact hnb _ ⟨by omega, by omega⟩
  · refine hK u w' S' μ' (kp.trans k') (by simpa [List.append_assoc] using hw') hv (fun m' hm' => ?_)
    rw [hm m' (fun e => hm' ⟨by omega, by omega⟩), hμ2 m' (fun e => hm' ⟨by omega, by omega⟩) (fun e => hm' ⟨by omega, by omega⟩)]

/-! ### a row put in -/
def AM.setR (a : AM) (k : List Int) : AM := match a.hasR k with
  | true => a
  | false => ⟨a.es ++ [⟨k, 0, a.c⟩], a.c + 1⟩

theorem hasR_iff {a : AM} {k : List Int} : a.hasR k = true ↔ ∃ e ∈ a.es, e.k = k := by simp [AM.hasR, List.any_eq_true]

theorem AM.WF.setR {a : AM} (h : a.WF) (k : List Int) : (a.setR k).WF := by
  unfold AM.setR
  split
  · exact h
  · rename_i hk
    exact h.snoc (fun e he hek => by rw [hasR_iff.2 ⟨e, he, hek⟩] at hk; cases hk) 0

theorem setR_keys {a : AM} {k : List Int} {n : Nat} (h : ∀ e ∈ a.es, e.k.length = n) (hk : k.length = n) : ∀ e ∈ (a.setR k).es, e.k.length = n := by
  unfold AM.setR
  split
  · exact h
  · intro e he
    rcases List.mem_append.1 he with he | he
    · exact h e he
    · rw [List.mem_singleton.1 he]; exact hk

theorem setR_mem {a : AM} {k : List Int} : (∃ e ∈ (a.setR k).es, e.k = k) ∧ ∀ e ∈ a.es, e ∈ (a.setR k).es := by
  unfold AM.setR
  split
  · rename_i h
    exact ⟨hasR_iff.1 h, fun e he => he⟩
  · exact ⟨⟨_, List.mem_append_right _ (List.mem_singleton.2 rfl), rfl⟩, fun e he => List.mem_append_left _ he⟩

theorem findX_pos {l : List (List Int × Value)} {k : List Int} : ∀ {es : List MEnt} {xs : List MapEntry} {i : Nat}, entsR l es xs →
    xs.map (·.key) = (es.map (·.k)).map keyV ∧ ((∃ j u e, findX k (es.map (·.k)) xs i = some (i + j, u) ∧ es[j]? = some e ∧ e.k = k) ∨ (findX k (es.map (·.k)) xs i = none ∧ ∀ e ∈ es, e.k ≠ k))
  | [], xs, i, h => by
    have : xs = [] := h
    subst this
    exact ⟨rfl, .inr ⟨rfl, fun e he => by cases he⟩⟩
  | e :: es, xs, i, ⟨x, r, hx, hk, _, hv, hr⟩ => by
    subst hx
    obtain ⟨h1, h2⟩ := findX_pos (k := k) (i := i + 1) hr
    refine ⟨by simp only [List.map_cons, hk, h1], ?_⟩
    simp only [List.map_cons, findX]
    split
    · rename_i he
      exact .inl ⟨0, _, e, by rw [Nat.add_zero], rfl, he⟩
    · rename_i he
      rcases h2 with ⟨j, u, e', h2, he', hk'⟩ | ⟨h2, h3⟩
      · exact .inl ⟨j + 1, u, e', by rw [h2, show i + 1 + j = i + (j + 1) from by omega], by simpa using he', hk'⟩
      · refine .inr ⟨h2, fun e' he' => ?_⟩
        rcases List.mem_cons.1 he' with rfl | he'
        · exact he
        · exact h3 e' he'

theorem valAt_new {l : List (List Int × Value)} {k : List Int} {v : Value} (k' : List Int) : valAt ((k, v) :: cutL l k) k' = if k' = k then v else valAt l k' := by
  simp only [valAt]
  by_cases hk : k' = k
  · rw [if_pos hk.symm, if_pos hk]
  · rw [if_neg (Ne.symm hk), if_neg hk, valAt_cut, if_neg hk]

/-- What lies in the map is told alike but for what is under k. -/
theorem entsR_other {l l' : List (List Int × Value)} {k : List Int} (hh : ∀ k', k' ≠ k → valAt l' k' = valAt l k') : ∀ {es : List MEnt} {xs : List MapEntry}, (∀ e ∈ es, e.k ≠ k) → entsR l es xs → entsR l' es xs
  | [], _, _, h => h
  | e :: es, xs, hne, ⟨x, r, hx, hk, hb, hv, hr⟩ => by
    have h1 := hne e List.mem_cons_self
    exact ⟨x, r, hx, hk, hb, by rw [hv, hh _ h1], entsR_other hh (fun e' he' => hne e' (List.mem_cons_of_mem _ he')) hr⟩

theorem entsR_set {l l' : List (List Int × Value)} {k : List Int} {v : Value} (hh : ∀ k', k' ≠ k → valAt l' k' = valAt l k') (hv0 : valAt l' k = v) : ∀ {es : List MEnt} {xs : List MapEntry} {j : Nat} {e0 : MEnt}, (es.map (·.k)).Nodup → es[j]? = some e0 → e0.k = k → entsR l es xs →
    entsR l' es (xs.modify j fun e => { e with key := keyV k, val := v })
  | [], _, _, _, _, hj, _, _ => by simp at hj
  | e :: es, xs, j, e0, hn, hj, hk0, ⟨x, r, hx, hk, hb, hv, hr⟩ => by
    subst hx
    simp only [List.map_cons, List.nodup_cons] at hn
    cases j with
    | zero =>
      simp at hj
      subst hj hk0
      rw [List.modify_zero_cons]
      exact ⟨_, r, rfl, rfl, hb, hv0.symm, entsR_other hh (fun e' he' h1 => hn.1 (List.mem_map.2 ⟨e', he', h1⟩)) hr⟩
    | succ j =>
      have hj : es[j]? = some e0 := by simpa using hj
      have hne : e.k ≠ k := fun h1 => hn.1 (by rw [h1, ← hk0]; exact List.mem_map.2 ⟨e0, List.mem_of_getElem? hj, rfl⟩)
      rw [List.modify_succ_cons]
      exact ⟨x, _, rfl, hk, hb, by rw [hv, hh _ hne], entsR_set hh hv0 hn.2 hj hk0 hr⟩

theorem entsR_snoc {l : List (List Int × Value)} {k : List Int} {c : Nat} {v : Value} (hv0 : valAt l k = v) : ∀ {es : List MEnt} {xs : List MapEntry}, entsR l es xs → entsR l (es ++ [⟨k, 0, c⟩]) (xs ++ [⟨keyV k, v, c⟩])
  | [], xs, h => by
    have : xs = [] := h
    subst this
    exact ⟨_, [], rfl, rfl, rfl, hv0.symm, rfl⟩
  | e :: es, xs, ⟨x, r, hx, hk, hb, hv, hr⟩ => by
    subst hx
    exact ⟨x, _, rfl, hk, hb, hv, entsR_snoc hv0 hr⟩

/-- A map of rows is written. -/
theorem updateR_run {w : World} {t kt et n r : Nat} {a : AM} {xs : List MapEntry} {l l' : List (List Int × Value)} {key : List Int} (v : Value) (ht : P.underlying t = some (.map kt et)) (hk : KeyOK P kt n) (hr : w.heap[r]? = some (.map xs.toArray a.c)) (he : entsR l a.es xs)
    (hn : ∀ e ∈ a.es, e.k.length = n) (hkey : key.length = n) (hwf : a.WF) (hh : ∀ k', k' ≠ key → valAt l' k' = valAt l k') (hv0 : valAt l' key = v) :
    ∃ xs', (Instr.mapUpdate t (.map (some r)) (keyV key) v).run P w = .ok () (setBlk w r (.map (List.toArray xs') (a.setR key).c)) ∧ entsR l' (a.setR key).es xs' := by
  have hc := hk.check w key false hkey
  obtain ⟨g1, g2⟩ := findX_pos (k := key) (i := 0) he
  have hf := hk.find w key (a.es.map (·.k)) xs hkey (by
    intro kk hkk
    obtain ⟨e, he, rfl⟩ := List.mem_map.1 hkk
    exact hn e he) g1
  have hs := hk.stays w key hkey
  simp only [Instr.mapUpdate, Sem.run_bind, run_underlying ht, Result.andThen_ok, MapKept.run_getObj_map hr, hc, hf]
  rcases g2 with ⟨j, u, e, h1, h2, h3⟩ | ⟨h1, h2⟩
  · have hh2 : a.setR key = a := by
      unfold AM.setR
      rw [hasR_iff.2 ⟨e, List.mem_of_getElem? h2, h3⟩]
    have hxk : ((xs.toArray[j]?).map (·.key)).getD (keyV key) = keyV key := by
      have := congrArg (fun l => l[j]?) g1
      simp only [List.getElem?_map, h2, Option.map_some, h3] at this
      simp only [List.getElem?_toArray]
      cases hx : xs[j]? with
      | none => rw [hx] at this; cases this
      | some x => rw [hx] at this; simpa using this
    rw [h1, hh2]
    simp only [Nat.zero_add, hxk, Sem.run_bind, hs, Result.andThen_ok, MapKept.run_setObj_map _ hr]
    refine ⟨xs.modify j fun e => { e with key := keyV key, val := v }, ?_, entsR_set hh hv0 hwf.keys h2 h3 he⟩
    rw [show (xs.toArray.modify j fun e => { e with key := keyV key, val := v }) = (xs.modify j fun e => { e with key := keyV key, val := v }).toArray from by apply Array.ext'; simp]
    rfl
  · have hh2 : a.setR key = ⟨a.es ++ [⟨key, 0, a.c⟩], a.c + 1⟩ := by
      unfold AM.setR
      have : a.hasR key = false := by
        cases hh : a.hasR key with
        | false => rfl
        | true => obtain ⟨e, he, hek⟩ := hasR_iff.1 hh; exact absurd hek (h2 e he)
      rw [this]
    rw [h1, hh2]
    simp only [MapKept.run_setObj_map _ hr]
    refine ⟨xs ++ [⟨keyV key, v, a.c⟩], by simp [setBlk], ?_⟩
    exact entsR_snoc hv0 (entsR_other hh h2 he)

def holeC (hole : Option (List Int × Nat)) (k : List Int) : List Prop := match hole with
  | none => []
  | some (k', _) => [k' = k]

theorem holeL_other {μ : Mu} {hole : Option (List Int × Nat)} {l l' : List (List Int × Value)} {k : List Int} (h : holeL μ hole l l') (hc : All (holeC hole k)) : ∀ k', k' ≠ k → valAt l' k' = valAt l k' := by
  intro k' hk'
  cases hole with
  | none =>
    have h : l' = l := h
    rw [h]
  | some p =>
    obtain ⟨k0, q⟩ := p
    obtain ⟨v, _, rfl⟩ := h
    have : k0 = k := hc.1
    subst this
    simp only [valAt]
    rw [if_neg (Ne.symm hk')]

def updateR (T : Tab) (s : St) (d t : Nat) (x key v : Operand) : Option Eff :=
  match look T t with
  | none => none
  | some ti => match ti.desc with
    | .map kt _ => match look T kt with
      | some tk => match arg s x with
        | some (c, .one (.map m)) => match arg s key with
          | some (c', vk) => match keyAV tk.key vk with
            | none => none
            | some k => match look s.mem m with
              | some (.mapR n g hole a) => match Nat.beq n tk.key, look s.mem g with
                | true, some (.grp e sz f) => match arg s v with
                  | some (c'', .one (.own q)) => match look s.mem q with
                    | some (.row e' sz' n' get) => match Nat.beq e e', Nat.beq sz sz' with
                      | true, true => some ⟨c ++ c' ++ c'' ++ holeC hole k, .un, [(d, .grp e sz (updF f k (n', get))), (m, .mapR n d none (a.setR k)), (q, .dead), (g, .dead)]⟩
                      | _, _ => none
                    | _ => none
                  | some (c'', .one .nil) => some ⟨c ++ c' ++ c'' ++ holeC hole k, .un, [(d, .grp e sz (updF f k nilRow)), (m, .mapR n d none (a.setR k)), (d + 1, .dead), (g, .dead), (d + 1, .row e sz 0 nilRow.2)]⟩
                  | _ => none
                | _, _ => none
              | _ => none
          | none => none
        | _ => none
      | none => none
    | _ => none

theorem updateR_ok (hT : TabOK P T) {o : Oper} {s : St} {d t : Nat} {x key v : Operand} (ho : o.op = .mapUpdate t x key v) {E : Eff} (h : updateR T s d t x key v = some E) : StepOK P o s E (fun m => m = d ∨ m = d + 1) := by
  unfold updateR at h
  split at h
  · cases h
  rename_i ti hti
  split at h
  rotate_left
  · cases h
  rename_i kt et hd
  split at h
  rotate_left
  · cases h
  rename_i tk htk
  split at h
  rotate_left
  · cases h
  rename_i c m hx
  split at h
  rotate_left
  · cases h
  rename_i c' vk hkey
  split at h
  · cases h
  rename_i k hk
  have ht : P.underlying t = some (.map kt et) := by rw [(hT _ _ hti).1, hd]
  obtain ⟨_, _, _, _, _, _, _, _, _, hki⟩ := hT _ _ htk
  split at h
  rotate_left
  · cases h
  rename_i n g hole a hm
  split at h
  rotate_left
  · cases h
  rename_i e sz f h2 hg
  -- the write itself
  have main : ∀ {F : Fr} {w : World} {S : Nat → Prop} {μ : Mu} {mem : List (Nat × Res)} {act : Act} {q n' : Nat} {get : Nat → Nat → Cell} {K : Act → World → Prop} {Q : Exit → Act → World → Prop}, Wp F w S μ mem → repEnv w S μ s.env act.tmps → All (c ++ c' ++ holeC hole k) → look mem m = some (.mapR n g hole a) →
      look mem g = some (.grp e sz f) → look mem q = some (.row e sz n' get) → μ q = some (act.eval v) → μ d = none →
      (∀ w' μ', Kp w w' S S μ μ' → Wp F w' S μ' ((d, .grp e sz (updF f k (n', get))) :: (m, .mapR n d none (a.setR k)) :: (q, .dead) :: (g, .dead) :: mem) → (∀ m, m ≠ d → μ' m = μ m) → K (act.put o.dst undef) w') → o.wp P act w K Q := by
    intro F w S μ mem act q n' get K Q hw he hc hm hg hq hqv hd0 hK
    obtain ⟨hc12, hc3⟩ := All.app hc
    obtain ⟨hc1, hc2⟩ := All.app hc12
    obtain ⟨hmu, r, hxe⟩ := rep_arg he hx hc1
    obtain ⟨hke, hkl, hn12⟩ := rep_keyAV (rep_arg he hkey hc2) hk
    obtain ⟨r', l, xs, hmu', hgl, hr, ⟨l', hhl, hes, hnil⟩, hn, hwf⟩ := hw.res m _ hm
    have hoth := holeL_other hhl hc3
    have hmu0 := hmu'
    rw [hmu] at hmu'
    injection hmu' with hmu'
    rw [hxe] at hmu'
    injection hmu' with hmu'
    injection hmu' with hmu'
    subst hmu'
    have hnn := Nat.eq_of_beq_eq_true h2
    obtain ⟨xs', hrun, hes'⟩ := updateR_run (w := w) (l' := (k, act.eval v) :: cutL l k) (act.eval v) ht (hnn ▸ keyInfo_ok hki hn12) hr hes hn (by rw [hkl, hnn]) hwf (fun k' hk' => by rw [valAt_new, if_neg hk', hoth k' hk']) (by rw [valAt_new, if_pos rfl])
    have hlt : r < w.heap.size := (Array.getElem?_eq_some_iff.1 hr).1
    have hO : Owns μ mem m r := ⟨_, _, hm, rfl, hmu0, List.mem_singleton.2 rfl⟩
    have hgm : g ≠ m := by rintro rfl; rw [hg] at hm; cases hm
    have hqm : q ≠ m := by rintro rfl; rw [hq] at hm; cases hm
    obtain ⟨hwr, kp⟩ := hw.putIn (k := k) (r' := .mapR n d none (a.setR k)) hg hgl hq hqv hm rfl hgm hqm hd0 (w' := setBlk w r (.map (List.toArray xs') (a.setR k).c)) rfl rfl rfl (by simp [setBlk])
      (fun b hb => setBlk_other w _ (by rintro rfl; exact hb hO)) (fun μ2 mo m1 => ⟨r, _, xs', mo _ _ hmu0, m1, setBlk_heap w _ hlt, ⟨_, rfl, hes', fun k' hk' => by
        obtain ⟨⟨e1, he1, hk1⟩, hsub⟩ := setR_mem (a := a) (k := k)
        have hkk : k' ≠ k := fun e => hk' e1 he1 (hk1.trans e.symm)
        rw [valAt_new, if_neg hkk, ← hoth k' hkk]
        exact hnil k' (fun e2 he2 => hk' e2 (hsub e2 he2))⟩, setR_keys hn (by rw [hkl, hnn]), hwf.setR k⟩)
    refine wp_skip' ?_ (hK _ _ kp hwr (fun m' hm' => setμ_ne _ _ hm'))
    simp [execOp, ho, hxe, hke, hrun]
  split at h
  · rename_i c'' q hv
    split at h
    rotate_left
    · cases h
    rename_i e' sz' n' get hq
    split at h
    rotate_left
    · cases h
    rename_i he1 he2
    obtain rfl := Nat.eq_of_beq_eq_true he1
    obtain rfl := Nat.eq_of_beq_eq_true he2
    simp only [Option.some.injEq] at h
    subst h
    intro F w S μ act hw he hnb hc K Q hK
    obtain ⟨hc1, hc4⟩ := All.app hc
    obtain ⟨hc2, hc3⟩ := All.app hc1
    have hqv : μ q = some (act.eval v) := (rep_arg he hv hc3).1
    have hcc : All (c ++ c' ++ holeC hole k) := All.join hc2 hc4
    exact main hw he hcc hm hg hq hqv (hnb d (.inl rfl)) (fun w' μ' kp hw' hμ' => hK undef w' S μ' kp hw' trivial (fun m' hm' => hμ' m' (fun e => hm' (.inl e))))
  · rename_i c'' hv
    simp only [Option.some.injEq] at h
    subst h
    intro F w S μ act hw he hnb hc K Q hK
    obtain ⟨hc1, hc4⟩ := All.app hc
    obtain ⟨hc2, hc3⟩ := All.app hc1
    have hve : act.eval v = .slice none 0 0 := rep_arg he hv hc3
    have hcc : All (c ++ c' ++ holeC hole k) := All.join hc2 hc4
    obtain ⟨hw1, k1⟩ := hw.nilRow (hnb (d + 1) (.inr rfl)) e sz nilRow.2
    have hne : ∀ {y : Nat} {r : Res}, look s.mem y = some r → r.live = true → y ≠ d + 1 := by
      rintro y r hl hlive rfl
      obtain ⟨u, hu⟩ := hw.mu_some hl hlive
      rw [hnb (d + 1) (.inr rfl)] at hu
      cases hu
    refine main hw1 (repEnv_keep k1 he) hcc ?_ ?_ (q := d + 1) (n' := 0) (get := nilRow.2) ?_ ?_ ?_ (fun w' μ' kp hw' hμ' => hK undef w' S μ' (k1.trans kp) hw' trivial (fun m' hm' => ?_))
    · rw [look_cons, if_neg (Ne.symm (hne hm rfl))]; exact hm
    · rw [look_cons, if_neg (Ne.symm (hne hg rfl))]; exact hg
    · rw [look_cons, if_pos rfl]
    · rw [hve]; exact setμ_same _ _ _
    · rw [setμ_ne _ _ (by omega)]; exact hnb d (.inl rfl)
    · rw [hμ' m' (fun e => hm' (.inl e)), setμ_ne _ _ (fun e => hm' (.inr e))]
  · cases h
end
end Go.Eng

/- A program logic over abstract states, part Rows: slices of rows; min, max. -/
namespace Go.Eng
open Go

section
variable {P : Program} {T : Tab}

def indexR (T : Tab) (s : St) (t : Nat) (x ix : Operand) : Option Eff :=
  match look T t with
  | none => none
  | some ti => match ti.desc with
    | .slice e => match look T e with
      | none => none
      | some te => match arg s x with
        | some (c, .one (.own m)) => match arg s ix with
          | some (c', .one (.c (.val (.int _ i)))) => match look s.mem m with
            | some (.rowR _ _ n _) => match Nat.beq te.size 1 with
              | true => some ⟨c ++ c' ++ [0 ≤ i, i < (n : Int)], .one (.pow m 1 i.toNat 0), []⟩
              | false => none
            | _ => none
          | _ => none
        | _ => none
    | _ => none

theorem indexR_ok (hT : TabOK P T) {o : Oper} {s : St} {t : Nat} {x ix : Operand} (ho : o.op = .indexAddr t x ix) {E : Eff} (h : indexR T s t x ix = some E) : PureOK P o s E := by
  unfold indexR at h
  split at h
  · cases h
  rename_i ti hti
  split at h
  rotate_left
  · cases h
  rename_i e hd
  have ht := (hT _ _ hti).1
  rw [hd] at ht
  split at h
  · cases h
  rename_i te hte0
  have hte := hT _ _ hte0
  split at h
  rotate_left
  · cases h
  rename_i c m hx
  split at h
  rotate_left
  · cases h
  rename_i c' k i hix
  split at h
  rotate_left
  · cases h
  rename_i e' g n hole hm
  split at h
  rotate_left
  · cases h
  rename_i hs
  have hs := Nat.eq_of_beq_eq_true hs
  simp only [Option.some.injEq] at h
  subst h
  refine PureOK.of rfl fun w S μ F act hw he hc => ?_
  obtain ⟨hc0, hc2⟩ := All.app hc
  obtain ⟨hc1, hc1'⟩ := All.app hc0
  obtain ⟨hmu, _⟩ := rep_arg he hx hc1
  obtain ⟨v, l, xs, h1, _, h2, _⟩ := hw.res m _ hm
  rw [hmu] at h1
  injection h1 with h1
  have hi0 : 0 ≤ i := hc2.1
  have hin : i < (n : Int) := hc2.2.1
  rcases h2.2 with ⟨_, e2⟩ | ⟨b, cap, cur, e1, _⟩
  · omega
  · rw [h1] at hmu
    rw [e1] at h1 hmu
    refine ⟨_, indexAddr_run ht hte ho w h1 (rep_arg he hix hc1').1 hi0 hin, b, n, cap, hmu, ?_⟩
    rw [hs]
    simp

def loadR (T : Tab) (s : St) (t : Nat) (x : Operand) : Option Eff :=
  match look T t with
  | none => none
  | some ti => match isAggD ti.desc, Nat.beq ti.size 1 with
    | false, true => match arg s x with
      | some (c, .one (.pow m 1 i 0)) => match look s.mem m with
        | some (.rowR _ g n none) => match look s.mem g with
          | some (.grp _ _ _) => some ⟨c ++ [i < n], .one (.mel m g [.ofNat i]), []⟩
          | _ => none
        | _ => none
      | _ => none
    | _, _ => none

theorem loadR_ok (hT : TabOK P T) {o : Oper} {s : St} {t : Nat} {x : Operand} (ho : o.op = .load t x) {E : Eff} (h : loadR T s t x = some E) : PureOK P o s E := by
  unfold loadR at h
  split at h
  · cases h
  rename_i ti hti
  have ht := hT _ _ hti
  split at h
  rotate_left
  · cases h
  rename_i hag hs1
  split at h
  rotate_left
  · cases h
  rename_i c m i hx
  split at h
  rotate_left
  · cases h
  rename_i e g n hm
  split at h
  rotate_left
  · cases h
  rename_i e2 sz2 f hg
  simp only [Option.some.injEq] at h
  subst h
  refine PureOK.of rfl fun w S μ F act hw he hc => ?_
  obtain ⟨hc1, hc2⟩ := All.app hc
  have hin : i < n := hc2.1
  obtain ⟨b, n', c', hb, hxe⟩ := rep_arg he hx hc1
  obtain ⟨v, _, xs, h1, hgl, h2, l, rfl, h3⟩ := hw.res m _ hm
  obtain ⟨l', _, hgl', hrows, _⟩ := hw.res g _ hg
  rw [hgl] at hgl'
  injection hgl' with hgl'
  obtain rfl := encG_inj hgl'
  rw [hb] at h1
  injection h1 with h1
  subst h1
  have hval := h3 i hin
  have hcl := h2.cells (g := b) rfl i _ hval
  rw [Addr.add_lit, Nat.zero_add] at hcl
  have hrow : ∃ A n c, valAt l [(i : Int)] = .slice A n c := by
    obtain ⟨ys, hown, _⟩ := hrows [(i : Int)]
    rcases hown.2 with ⟨hv, _⟩ | ⟨g', cap, cur, hv, _⟩
    · exact ⟨_, _, _, hv⟩
    · exact ⟨_, _, _, hv⟩
  have hld : (loadVar t ⟨b, i * 1 + 0, none⟩).run P w = .ok (valAt l [(i : Int)]) w := by
    simp only [loadVar, Sem.run_bind, run_isAgg' ht.1, hag, Result.andThen_ok, Bool.false_eq_true, if_false, Nat.mul_one, Nat.add_zero]
    simp [load, Sem.run, hcl]
  refine ⟨_, ?_, l, hgl, rfl, hrow⟩
  rw [Nat.mul_one, Nat.add_zero] at hld
  simp [execOp, ho, hxe, Instr.loadAt, Instr.sureAddr, hld]

def storeR (T : Tab) (s : St) (d t : Nat) (x v : Operand) : Option Eff :=
  match look T t with
  | none => none
  | some ti => match Nat.beq ti.size 1 with
    | true => match arg s x with
      | some (c, .one (.pow m 1 i 0)) => match look s.mem m with
        | some (.rowR e' g n hole) => match look s.mem g with
          | some (.grp e sz f) => match arg s v with
            | some (c', .one (.own q)) => match look s.mem q with
              | some (.row e2 sz2 n' get) => match Nat.beq e e2, Nat.beq sz sz2 with
                | true, true => some ⟨c ++ c' ++ [i < n] ++ holeC hole [.ofNat i], .un, [(d, .grp e sz (updF f [.ofNat i] (n', get))), (m, .rowR e' d n none), (q, .dead), (g, .dead)]⟩
                | _, _ => none
              | _ => none
            | _ => none
          | _ => none
        | _ => none
      | _ => none
    | false => none

theorem storeR_ok (hT : TabOK P T) {o : Oper} {s : St} {d t : Nat} {x v : Operand} (ho : o.op = .store t x v) {E : Eff} (h : storeR T s d t x v = some E) : StepOK P o s E (· = d) := by
  unfold storeR at h
  split at h
  · cases h
  rename_i ti hti
  have ht := hT _ _ hti
  split at h
  rotate_left
  · cases h
  rename_i hs
  have hs := Nat.eq_of_beq_eq_true hs
  split at h
  rotate_left
  · cases h
  rename_i c m i hx
  split at h
  rotate_left
  · cases h
  rename_i e' g n hole hm
  split at h
  rotate_left
  · cases h
  rename_i e sz f hg
  split at h
  rotate_left
  · cases h
  rename_i c' q hv
  split at h
  rotate_left
  · cases h
  rename_i e2 sz2 n' get hq
  split at h
  rotate_left
  · cases h
  rename_i b1 b2
  obtain rfl := Nat.eq_of_beq_eq_true b1
  obtain rfl := Nat.eq_of_beq_eq_true b2
  simp only [Option.some.injEq] at h
  subst h
  intro F w S μ a hw he hnb hc K Q hK
  obtain ⟨hc1, hc4⟩ := All.app hc
  obtain ⟨hc2, hc3⟩ := All.app hc1
  obtain ⟨hcx, hcv⟩ := All.app hc2
  have hin : i < n := hc3.1
  obtain ⟨b, nn, cap', hb, hxe⟩ := rep_arg he hx hcx
  obtain ⟨hqv, A, n1, c1, hve⟩ := rep_arg he hv hcv
  obtain ⟨vv, l, xs, h1, hgl, h2, l', hhl, h3⟩ := hw.res m _ hm
  have hoth := holeL_other hhl hc4
  rw [hb] at h1
  injection h1 with h1
  subst h1
  have hO : Owns μ s.mem m b := ⟨_, _, hm, rfl, hb, List.mem_singleton.2 rfl⟩
  rcases h2.2 with ⟨e1, _⟩ | ⟨b', cap, cur, e1, hg0, hh, hnc, hcm, hcsz, htake⟩
  · cases e1
  injection e1 with e1 e2 e3
  injection e1 with e1
  injection e1 with e1
  subst e1 e2 e3
  have hcur : cur.size = cap' := by rw [hcsz, Nat.mul_one]
  have hvc : (a.eval v).cells = #[a.eval v] := by rw [hve]; rfl
  have hrun := run_storeVar' (v := a.eval v) ht hh (o := i * 1 + 0) (by rw [hvc, hs]; rfl) (by omega) (by rw [hvc, hve]; intro u hu; rw [List.mem_singleton.1 hu]; rfl)
  rw [hvc, hs] at hrun
  let cs' := (cur.toList.take (i * 1 + 0) ++ [a.eval v] ++ cur.toList.drop (i * 1 + 0 + 1)).toArray
  have hrun : (storeVar t ⟨b, i * 1 + 0, none⟩ (a.eval v)).run P w = .ok () (w.setRow b cs') := hrun
  have hcs' : cs'.size = cur.size := by
    simp only [cs', List.size_toArray, List.length_append, List.length_take, List.length_drop, Array.length_toList, List.length_cons, List.length_nil]
    omega
  have hnew : ∀ j, cs'.toList[j]? = if j = i then some (a.eval v) else cur.toList[j]? := by
    intro j
    have lt : (cur.toList.take (i * 1 + 0)).length = i := by rw [List.length_take, Array.length_toList]; omega
    have lt2 : (cur.toList.take (i * 1 + 0) ++ [a.eval v]).length = i + 1 := by rw [List.length_append, lt]; rfl
    show ((cur.toList.take (i * 1 + 0) ++ [a.eval v] ++ cur.toList.drop (i * 1 + 0 + 1)).toArray.toList)[j]? = _
    rw [List.toList_toArray]
    rcases Nat.lt_trichotomy j i with hlt | rfl | hgt
    · rw [if_neg (by omega), List.getElem?_append_left (by omega), List.getElem?_append_left (by omega), List.getElem?_take, if_pos (by omega)]
    · rw [if_pos rfl, List.getElem?_append_left (by omega), List.getElem?_append_right (by omega), lt, Nat.sub_self]
      rfl
    · rw [if_neg (by omega), List.getElem?_append_right (by omega), lt2, List.getElem?_drop]
      congr 1
      omega
  have hxl : xs.length = nn * 1 := h2.1
  have hgm : g ≠ m := by rintro rfl; rw [hg] at hm; cases hm
  have hqm : q ≠ m := by rintro rfl; rw [hq] at hm; cases hm
  have hd := hnb d rfl
  obtain ⟨hwr, kp⟩ := hw.putIn (k := [.ofNat i]) (r' := .rowR e' d nn none) hg hgl hq hqv hm rfl hgm hqm hd (w' := w.setRow b cs') rfl rfl rfl (size_setRow ..)
    (fun b' hb' => setRow_other w b b' cs' (by rintro rfl; exact hb' hO)) (fun μ2 mo m1 => ⟨_, _, cs'.toList.take (nn * 1), mo _ _ hb, m1, ⟨by rw [List.length_take, Array.length_toList]; omega, .inr ⟨b, cap', cs', rfl, hg0, setRow_heap w b _ _ e' _ hh, hnc, hcm, by omega, rfl⟩⟩, _, rfl, fun j hj => by
      rw [List.getElem?_take, if_pos (by omega), hnew, valAt_new]
      by_cases hji : j = i
      · subst hji
        rw [if_pos rfl]
        simp
      · rw [if_neg hji, if_neg (by simp; omega)]
        have := h3 j hj
        rw [← htake, List.getElem?_take, if_pos (by omega), hoth _ (by simp; omega)] at this
        exact this⟩)
  refine wp_skip' ?_ (hK undef _ S _ kp hwr trivial (fun m' hm' => setμ_ne _ _ hm'))
  rw [Nat.mul_one, Nat.add_zero] at hrun
  simp [execOp, ho, Instr.storeAt, hxe, Instr.sureAddr, hrun]

def lenR (T : Tab) (s : St) (t : Nat) (x : Operand) : Option Eff :=
  match look T t with
  | none => none
  | some ti => match ti.desc with
    | .slice _ => match arg s x with
      | some (c, .one (.own m)) => match look s.mem m with
        | some (.rowR _ _ n _) => some ⟨c, sc (.int .i64 n), []⟩
        | _ => none
      | _ => none
    | _ => none

theorem lenR_ok (hT : TabOK P T) {o : Oper} {s : St} {t : Nat} {x : Operand} (ho : o.op = .call { callee := .builtin .len, args := #[x], argTypes := #[t] }) {E : Eff} (h : lenR T s t x = some E) : PureOK P o s E := by
  unfold lenR at h
  split at h
  · cases h
  rename_i ti hti
  have ht := (hT _ _ hti).1
  split at h
  rotate_left
  · cases h
  rename_i e hd
  rw [hd] at ht
  split at h
  rotate_left
  · cases h
  rename_i c m hx
  split at h
  rotate_left
  · cases h
  rename_i e' g n hole hm
  simp only [Option.some.injEq] at h
  subst h
  refine PureOK.of rfl fun w S μ F act hw he hc => ?_
  obtain ⟨hmu, _⟩ := rep_arg he hx hc
  obtain ⟨v, l, xs, h1, _, h2, _⟩ := hw.res m _ hm
  rw [hmu] at h1
  injection h1 with h1
  have hsl : ∃ A cap, act.eval x = .slice A n cap := by
    rw [h1]
    rcases h2.2 with ⟨e1, e2⟩ | ⟨b, cap, cur, e1, _⟩
    · exact ⟨none, 0, by rw [e1, e2]⟩
    · exact ⟨_, _, e1⟩
  obtain ⟨A, cap, hxe⟩ := hsl
  refine ⟨.int .i64 n, ?_, rfl, rfl⟩
  simp [execOp, ho, resolve, invoke, builtin, Builtin.len_, hxe, run_underlying ht, goInt]

/-- A slice of rows, made. -/
def makeRows (T : Tab) (s : St) (d t : Nat) (x y : Operand) : Option Eff :=
  match look T t with
  | none => none
  | some ti => match ti.desc with
    | .slice e => match look T e with
      | none => none
      | some te => match te.desc, te.zero with
        | .slice e2, [.slice none 0 0] => match look T e2 with
          | none => none
          | some te2 => match arg s x with
            | some (c, .one (.c (.val (.int .i64 i)))) => match arg s y with
              | some (c', .one (.c (.val (.int .i64 j)))) => match Nat.beq te.size 1 with
                | true => some ⟨c ++ c' ++ [i = j, 0 ≤ i, i ≤ 9223372036854775807, te.bytes * i.toNat ≤ 140737488355328], .one (.own d), [(d, .rowR e (d + 1) i.toNat none), (d + 1, .grp e2 te2.size fun _ => (0, fun _ _ => .val (.bool false)))]⟩
                | false => none
              | _ => none
            | _ => none
        | _, _ => none
    | _ => none

theorem makeRows_ok (hT : TabOK P T) {o : Oper} {s : St} {d t : Nat} {x y : Operand} (ho : o.op = .makeSlice t x y) {E : Eff} (h : makeRows T s d t x y = some E) : StepOK P o s E (fun m => m = d ∨ m = d + 1) := by
  unfold makeRows at h
  split at h
  · cases h
  rename_i ti hti
  split at h
  rotate_left
  · cases h
  rename_i e hd
  have ht := (hT _ _ hti).1
  rw [hd] at ht
  split at h
  · cases h
  rename_i te hte0
  obtain ⟨_, inf, z, hi, hsz, hby, hz, hzc, _⟩ := hT _ _ hte0
  split at h
  rotate_left
  · cases h
  rename_i e2 hd2 hzero
  split at h
  · cases h
  rename_i te2 hte2
  split at h
  rotate_left
  · cases h
  rename_i c i hx
  split at h
  rotate_left
  · cases h
  rename_i c' j hy
  split at h
  rotate_left
  · cases h
  rename_i hs1
  have hs1 := Nat.eq_of_beq_eq_true hs1
  simp only [Option.some.injEq] at h
  subst h
  intro F w S μ a hw he hnb hc K Q hK
  obtain ⟨hc12, hc3⟩ := All.app hc
  obtain ⟨hc1, hc2⟩ := All.app hc12
  have hij : i = j := hc3.1
  have h0 : 0 ≤ i := hc3.2.1
  have h63 : i ≤ 9223372036854775807 := hc3.2.2.1
  have hbb : te.bytes * i.toNat ≤ 140737488355328 := hc3.2.2.2.1
  subst hij
  have hxe : a.eval x = .int .i64 i := (rep_arg he hx hc1).1
  have hye : a.eval y = .int .i64 i := (rep_arg he hy hc2).1
  obtain ⟨n, rfl⟩ : ∃ n : Nat, i = (n : Int) := ⟨i.toNat, by omega⟩
  simp only [Int.toNat_natCast] at hbb ⊢
  obtain ⟨w', hrun, hown, hgrow⟩ := run_make_full (P := P) w 0 t e inf z 1 ht hi hz (by rw [hsz, hs1]) .i64 .i64 n (by rw [hby]; omega) (by have : maxLen = 9223372036854775807 := rfl; omega) (Nat.zero_le _)
  have hd0 := hnb d (.inl rfl)
  have hd1 := hnb (d + 1) (.inr rfl)
  have w1 := hw.newGrp hd1 e2 te2.size
  have k1 : Kp w w S S μ (setμ μ (d + 1) (encG [])) := ⟨fun _ h => h, fun _ _ => rfl, setμ_mono hd1 _⟩
  have hd' : setμ μ (d + 1) (encG []) d = none := by rw [setμ_ne _ _ (by omega)]; exact hd0
  have k2 : Kp w w' S S (setμ μ (d + 1) (encG [])) (setμ (setμ μ (d + 1) (encG [])) d (.slice (some ⟨w.heap.size, 0, none⟩) n n)) :=
    ⟨fun _ h => h, fun b hb => hgrow.block b (hw.Sb b hb) (by simp), setμ_mono hd' _⟩
  have hzcells : z.cells = #[.slice none 0 0] := by rw [hzc, hzero]
  have hW : Wp F w' S (setμ (setμ μ (d + 1) (encG [])) d (.slice (some ⟨w.heap.size, 0, none⟩) n n)) ((d, .rowR e (d + 1) n none) :: (d + 1, .grp e2 te2.size fun _ => (0, fun _ _ => .val (.bool false))) :: s.mem) := by
    refine Wp.upd (fun _ => False) (fun m => m = d) w1 k2 hgrow.os hgrow.tape hgrow.output hgrow.size (fun b hb _ => hgrow.block b hb (by simp)) (fun _ hb => hb.elim) (fun b hb => Nat.lt_of_lt_of_le (hw.Sb b hb) hgrow.size) (fun _ hb => .inl hb) ?_ ?_ ?_ ?_ ?_ ?_
    · intro m hm; rw [look_cons, if_neg (fun e => hm e.symm)]
    · intro m b _ hO; exact ⟨id, (w1.sep m b hO).1⟩
    · rintro m r rfl hl
      rw [look_cons, if_pos rfl] at hl
      injection hl with hl
      subst hl
      refine ⟨_, [], _, setμ_same _ _ _, by rw [setμ_ne _ _ (by omega), setμ_same], hown, [], rfl, fun i hi => ?_⟩
      rw [hzcells]
      have hms : (madeCells #[Value.slice none 0 0] (n * 1))[i]? = some (.slice none 0 0) := by
        simp [madeCells, hi, Nat.mod_one]
      simpa [valAt] using hms
    · rintro m b rfl hO
      obtain ⟨_, hb⟩ := owns_cons_same hO
      simp [blks] at hb
      subst hb
      exact ⟨fun hs => absurd (hw.Sb _ hs) (Nat.lt_irrefl _), .inl hw.grow.size⟩
    · rintro m m' b rfl rfl _ _; rfl
    · rintro m m' b rfl _ hO hO'
      obtain ⟨_, hb⟩ := owns_cons_same hO
      simp [blks] at hb
      subst hb
      exact absurd (w1.owns_lt hO') (Nat.lt_irrefl _)
  refine wp_value (u := .slice (some ⟨w.heap.size, 0, none⟩) n n) (w' := w') ?_ (hK _ _ S _ (k1.trans k2) hW ⟨setμ_same _ _ _, _, _, _, rfl⟩ (fun m hm => ?_))
  · simp [execOp, ho, hxe, hye, hrun]
  · rw [setμ_ne _ _ (fun e => hm (.inl e)), setμ_ne _ _ (fun e => hm (.inr e))]

def orE (a b : Option Eff) : Option Eff := match a with
  | some E => some E
  | none => b
theorem orE_cases {a b : Option Eff} {E : Eff} (h : orE a b = some E) : a = some E ∨ b = some E := by
  cases a with
  | none => exact .inr h
  | some x => exact .inl h

/-! ### min, max -/
def mmEff (s : St) (mx : Bool) (x y : Operand) : Option Eff :=
  match arg s x with
  | some (c, .one (.c (.val (.int .i64 a)))) => match arg s y with
    | some (c', .one (.c (.val (.int .i64 b)))) => some ⟨c ++ c', sc (.int .i64 (match mx with | true => max a b | false => min a b)), []⟩
    | _ => none
  | _ => none

theorem max_ok {o : Oper} {s : St} {x y : Operand} {ts : Array TypeId} (ho : o.op = .call { callee := .builtin .max, args := #[x, y], argTypes := ts }) {E : Eff} (h : mmEff s true x y = some E) : PureOK P o s E := by
  unfold mmEff at h
  split at h
  rotate_left
  · cases h
  rename_i c a hx
  split at h
  rotate_left
  · cases h
  rename_i c' b hy
  simp only [Option.some.injEq] at h
  subst h
  refine PureOK.of rfl fun w S μ F act hw he hc => ?_
  obtain ⟨hc1, hc2⟩ := All.app hc
  have hxe : act.eval x = .int .i64 a := (rep_arg he hx hc1).1
  have hye : act.eval y = .int .i64 b := (rep_arg he hy hc2).1
  refine ⟨.int .i64 (max a b), ?_, rfl, rfl⟩
  have : (if b > a then b else a) = max a b := by
    by_cases h : b > a
    · rw [if_pos h, Int.max_eq_right (Int.le_of_lt h)]
    · rw [if_neg h, Int.max_eq_left (Int.not_lt.1 h)]
  simp [execOp, ho, resolve, invoke, builtin, Builtin.max_, Builtin.max2, hxe, hye, this]

theorem min_ok {o : Oper} {s : St} {x y : Operand} {ts : Array TypeId} (ho : o.op = .call { callee := .builtin .min, args := #[x, y], argTypes := ts }) {E : Eff} (h : mmEff s false x y = some E) : PureOK P o s E := by
  unfold mmEff at h
  split at h
  rotate_left
  · cases h
  rename_i c a hx
  split at h
  rotate_left
  · cases h
  rename_i c' b hy
  simp only [Option.some.injEq] at h
  subst h
  refine PureOK.of rfl fun w S μ F act hw he hc => ?_
  obtain ⟨hc1, hc2⟩ := All.app hc
  have hxe : act.eval x = .int .i64 a := (rep_arg he hx hc1).1
  have hye : act.eval y = .int .i64 b := (rep_arg he hy hc2).1
  refine ⟨.int .i64 (min a b), ?_, rfl, rfl⟩
  have : (if b < a then b else a) = min a b := by
    by_cases h : b < a
    · rw [if_pos h, Int.min_eq_right (Int.le_of_lt h)]
    · rw [if_neg h, Int.min_eq_left (Int.not_lt.1 h)]
  simp [execOp, ho, resolve, invoke, builtin, Builtin.min_, Builtin.min2, hxe, hye, this]
end
end Go.Eng

/- A program logic over abstract states, part Range: an iterator over a map is made. -/
namespace Go.Eng
open Go

section
variable {P : Program} {T : Tab} {s : St}

def keyT : List Int → Bool × List AC
  | [x] => (false, [.c (.val (.int .i64 x))])
  | l => (true, l.map fun x => .c (.val (.int .i64 x)))

theorem rep_keyT {w : World} {S : Nat → Prop} {μ : Mu} (k : List Int) {ts : List (Bool × List AC)} {us : List Value} (h : repTs w S μ ts us) : repTs w S μ (keyT k :: ts) (keyV k :: us) := by
  have ints : ∀ l : List Int, reps w S μ (l.map fun x => AC.c (.val (.int .i64 x))) (l.map (Value.int .i64)) := by
    intro l
    induction l with
    | nil => rfl
    | cons x l ih => exact ⟨_, _, rfl, ⟨rfl, rfl⟩, ih⟩
  unfold keyT keyV
  split
  · exact ⟨[_], us, ⟨_, _, rfl, ⟨rfl, rfl⟩, rfl⟩, ⟨_, rfl, rfl⟩, h⟩
  · rename_i l hne
    split
    · rename_i x
      exact absurd rfl (hne x)
    · exact ⟨_, us, ints _, by simp, h⟩

/-- How many ints a map's keys are told as. -/
def klen : Res → Nat
  | .mapI n _ _ => n
  | .mapR n _ _ _ => n
  | _ => 0

def amOf : Res → Option AM
  | .mapI _ _ a => some a
  | .mapR _ _ none a => some a
  | _ => none

/-- How the value of an entry of the map m is told. -/
def valT (m : Nat) : Res → MEnt → Bool × List AC
  | .mapI _ q _, e => (false, [.c (.val (valQ q e.v))])
  | .mapR _ g _ _, e => (false, [.mel m g e.k])
  | _, _ => (false, [.any])

def rangeEff (T : Tab) (s : St) (d t : Nat) (x : Operand) : Option Eff :=
  match look T t with
  | none => none
  | some ti => match ti.desc with
    | .map _ _ => match arg s x with
      | some (c, .one (.map m)) => match look s.mem m with
        | some r => match amOf r with
          | some a => some ⟨c, .one (.it d), [(d, .iter m a.c [] a.c)]⟩
          | none => none
        | none => none
      | _ => none
    | _ => none

theorem entsR_map {l : List (List Int × Value)} : ∀ {es : List MEnt} {xs : List MapEntry}, entsR l es xs → xs = es.map (fun e => (⟨keyV e.k, valAt l e.k, e.b⟩ : MapEntry))
  | [], xs, h => h
  | e :: es, xs, ⟨x, r, hx, hk, hb, hv, hr⟩ => by
    rw [hx, entsR_map hr, List.map_cons, ← hk, ← hb, ← hv]

/-- What a map's block holds, whichever kind of map. -/
theorem map_block {w : World} {S : Nat → Prop} {μ : Mu} {mem : List (Nat × Res)} {F : Fr} (hw : Wp F w S μ mem) {m : Nat} {r : Res} {a : AM} (hm : look mem m = some r) (ha : amOf r = some a) :
    (a.WF ∧ ∀ e ∈ a.es, e.k.length = klen r) ∧ ∃ (b : Nat) (fv : MEnt → Value), μ m = some (.map (some b)) ∧ w.heap[b]? = some (.map (a.es.map (fun e => (⟨keyV e.k, fv e, e.b⟩ : MapEntry))).toArray a.c) ∧
      ((∃ n g, r = .mapR n g none a) ∨ ∀ e ∈ a.es, ∀ (w' : World) (S' : Nat → Prop) (μ' : Mu) ts us, repTs w' S' μ' ts us → repTs w' S' μ' (valT m r e :: ts) (fv e :: us)) ∧
      ∀ n g, r = .mapR n g none a → ∃ l, μ g = some (encG l) ∧ ∀ e, fv e = valAt l e.k := by
  have h := hw.res m r hm
  cases r with
  | mapI n q a' =>
    simp only [amOf, Option.some.injEq] at ha
    subst ha
    obtain ⟨b, h1, h2, h3, h4⟩ := h
    refine ⟨⟨h4, h3⟩, b, fun e => valQ q e.v, h1, h2, .inr fun e _ w' S' μ' ts us hts => ⟨[_], us, ⟨_, _, rfl, ⟨rfl, valQ_scal _ _⟩, rfl⟩, ⟨_, rfl, rfl⟩, hts⟩, fun n g e => by cases e⟩
  | mapR n g hole a' =>
    cases hole with
    | some p => simp [amOf] at ha
    | none =>
      simp only [amOf, Option.some.injEq] at ha
      subst ha
      obtain ⟨b, l, xs, h1, h2, h3, ⟨l', rfl, h4, _⟩, h5, h6⟩ := h
      refine ⟨⟨h6, h5⟩, b, fun e => valAt l' e.k, h1, by rw [h3, entsR_map h4], .inl ⟨n, g, rfl⟩, fun n' g' e => ?_⟩
      injection e with e1 e2
      subst e2
      exact ⟨l', h2, fun _ => rfl⟩
  | _ => simp [amOf] at ha

theorem range_ok (hT : TabOK P T) {o : Oper} {d t : Nat} {x : Operand} (ho : o.op = .range t x) {E : Eff} (h : rangeEff T s d t x = some E) : StepOK P o s E (· = d) := by
  unfold rangeEff at h
  split at h
  · cases h
  rename_i ti hti
  have ht := (hT _ _ hti).1
  split at h
  rotate_left
  · cases h
  rename_i kt et hd
  rw [hd] at ht
  split at h
  rotate_left
  · cases h
  rename_i c m hx
  split at h
  rotate_left
  · cases h
  rename_i r hm
  split at h
  rotate_left
  · cases h
  rename_i am ha
  simp only [Option.some.injEq] at h
  subst h
  intro F w S μ a hw he hnb hc K Q hK
  obtain ⟨hmu, b0, hxe⟩ := rep_arg he hx hc
  obtain ⟨⟨hwf, _⟩, b, fv, hmb, hb, _⟩ := map_block hw hm ha
  rw [hmu] at hmb
  injection hmb with hmb
  rw [hxe] at hmb hmu
  injection hmb with hmb
  injection hmb with hmb
  subst hmb
  have hd0 := hnb d rfl
  have hmd : m ≠ d := by rintro rfl; rw [hd0] at hmu; cases hmu
  refine wp_value (u := .pointer (some ⟨w.heap.size, 0, none⟩)) (w' := w.alloc (.mapIter (some b0) am.c #[] am.c)) ?_ (hK _ _ S _ (Kp.alloc hw.Sb hd0 _ _) (hw.new hd0 _ (.pointer (some ⟨w.heap.size, 0, none⟩)) (.iter m am.c [] am.c) (by intro b hb; simpa [blks] using hb) ?_) ⟨setμ_same _ _ _, _, rfl⟩ (fun m' hm' => setμ_ne _ _ hm'))
  · simp [execOp, ho, hxe, Instr.range, run_underlying ht, getObj, newObj, Sem.run, hb, Result.andThen]
  · exact ⟨_, b0, setμ_same _ _ _, by rw [setμ_ne _ _ hmd]; exact hmu, heap_alloc_new w _⟩


/-- A byte of a string. -/
def strIndexEff (T : Tab) (s : St) (t : Nat) (x ix : Operand) : Option Eff :=
  match look T t with
  | none => none
  | some ti => match ti.desc with
    | .string => match arg s x with
      | some (c, .one (.c (.val (.string b)))) => match arg s ix with
        | some (c', .one (.c (.val (.int _ i)))) => some ⟨c ++ c' ++ [0 ≤ i, i < (b.size : Int)], sc (.int .u8 (match b[i.toNat]? with | some y => (y.toNat : Int) | none => 0)), []⟩
        | _ => none
      | _ => none
    | _ => none

theorem strIndex_ok (hT : TabOK P T) {o : Oper} {t : Nat} {x ix : Operand} (ho : o.op = .index t x ix) {E : Eff} (h : strIndexEff T s t x ix = some E) : PureOK P o s E := by
  unfold strIndexEff at h
  split at h
  · cases h
  rename_i ti hti
  have ht := (hT _ _ hti).1
  split at h
  rotate_left
  · cases h
  rename_i hd
  rw [hd] at ht
  split at h
  rotate_left
  · cases h
  rename_i c b hx
  split at h
  rotate_left
  · cases h
  rename_i c' k i hi
  simp only [Option.some.injEq] at h
  subst h
  refine PureOK.of rfl fun w S μ F act hw he hc => ?_
  obtain ⟨hc12, hc3⟩ := All.app hc
  obtain ⟨hc1, hc2⟩ := All.app hc12
  have hxe : act.eval x = .string b := (rep_arg he hx hc1).1
  have hie : act.eval ix = .int k i := (rep_arg he hi hc2).1
  have h0 : 0 ≤ i := hc3.1
  have h1 : i < (b.size : Int) := hc3.2.1
  have hlt : i.toNat < b.size := by omega
  have hg : b[i.toNat]? = some b[i.toNat] := getElem?_pos ..
  refine ⟨.int .u8 (b[i.toNat].toNat : Int), ?_, ?_⟩
  · simp [execOp, ho, hxe, hie, Instr.index, asIntOf, run_underlying ht, h0, hg]
  · exact ⟨by rw [hg], rfl⟩
end
end Go.Eng
