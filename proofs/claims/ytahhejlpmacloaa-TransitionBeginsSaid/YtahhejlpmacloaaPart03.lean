/- A program logic over abstract states, part G: parts of slices, function values, structs put together, scalars. -/
import Derived.Test.YtahhejlpmacloaaPart02
namespace Go.Eng
open Go

def bound (s : St) (d : Int) : Option Operand → Option (List Prop × Int)
  | none => some ([], d)
  | some x => match arg s x with
    | some (c, .one (.c (.val (.int _ i)))) => some (c, i)
    | _ => none

/-- 'x[lo:hi]' of a slice (hi at most its length), or of a string. -/
def sliceEff (T : Tab) (s : St) (t : Nat) (x : Operand) (lo hi mx : Option Operand) : Option Eff :=
  match mx with
  | some _ => none
  | none => match look T t with
    | none => none
    | some ti => match arg s x with
      | none => none
      | some (c, v) => match ti.desc with
        | .slice e => match look T e with
          | none => none
          | some te => match sliceOf s.mem v with
            | none => none
            | some (n, sz, get, d) => match Nat.beq te.size sz with
              | false => none
              | true => match bound s 0 lo with
                | none => none
                | some (c1, l) => match bound s n hi with
                  | none => none
                  | some (c2, h) => some ⟨c ++ c1 ++ c2 ++ [0 ≤ l, l ≤ h, h ≤ (n : Int)], .one (.c (.sl (h - l).toNat sz (fun i => get (l.toNat + i)))), d⟩
        | .string => match scalOf v with
          | some (.string b) => match bound s 0 lo with
            | none => none
            | some (c1, l) => match bound s b.size hi with
              | none => none
              | some (c2, h) => some ⟨c ++ c1 ++ c2 ++ [0 ≤ l, l ≤ h, h ≤ (b.size : Int)], sc (.string (b.extract l.toNat h.toNat)), []⟩
          | _ => none
        | _ => none

section
variable {w : World} {S : Nat → Prop} {μ : Mu} {F : Fr}

theorem bound_ok {s : St} {a : Act} (he : repEnv w S μ s.env a.tmps) {d : Int} {x : Option Operand} {c : List Prop} {i : Int} (h : bound s d x = some (c, i)) (hc : All c) :
    (x = none ∧ i = d) ∨ ∃ y k, x = some y ∧ a.eval y = .int k i := by
  cases x with
  | none =>
    simp only [bound, Option.some.injEq, Prod.mk.injEq] at h
    exact .inl ⟨rfl, h.2.symm⟩
  | some y =>
    simp only [bound] at h
    split at h
    · rename_i c' k i' hx
      simp only [Option.some.injEq, Prod.mk.injEq] at h
      obtain ⟨rfl, rfl⟩ := h
      exact .inr ⟨y, k, rfl, (rep_arg he hx hc).1⟩
    · cases h

theorem run_bounds {P : Program} {isSlice : Bool} {len cap : Nat} {ρ : Operand → Value} {lo hi : Option Operand} {l h : Int} (w : World)
    (hl : (lo = none ∧ l = 0) ∨ ∃ y k, lo = some y ∧ ρ y = .int k l) (hh : (hi = none ∧ h = len) ∨ ∃ y k, hi = some y ∧ ρ y = .int k h) (h0 : 0 ≤ l) (h1 : l ≤ h) (h2 : h ≤ (cap : Int)) :
    (Instr.sliceBounds isSlice len cap (lo.map ρ) (hi.map ρ) none).run P w = .ok (l.toNat, h.toNat, cap) w := by
  have e1 : ((h.toNat : Nat) : Int) = h := Int.toNat_of_nonneg (by omega)
  rcases hh with ⟨rfl, rfl⟩ | ⟨y, k, rfl, hy⟩ <;> rcases hl with ⟨rfl, rfl⟩ | ⟨y', k', rfl, hy'⟩
  · simp [Instr.sliceBounds]
  · have : (0 ≤ l ∧ l ≤ (len : Int)) := ⟨h0, h1⟩
    simp [Instr.sliceBounds, Instr.sliceBound, hy', asIntOf, this]
  · have : (0 ≤ h ∧ h ≤ (cap : Int)) := ⟨by omega, h2⟩
    simp [Instr.sliceBounds, Instr.sliceBound, hy, asIntOf, this]
  · have a1 : (0 ≤ h ∧ h ≤ (cap : Int)) := ⟨by omega, h2⟩
    have a2 : (0 ≤ l ∧ l ≤ ((h.toNat : Nat) : Int)) := ⟨h0, by omega⟩
    simp [Instr.sliceBounds, Instr.sliceBound, hy, hy', asIntOf, a1, h0, e1, h1]

theorem slice_ok {P : Program} {T : Tab} (hT : TabOK P T) {o : Oper} {s : St} {t : Nat} {x : Operand} {lo hi mx : Option Operand} (ho : o.op = .slice t x lo hi mx) {E : Eff} (h : sliceEff T s t x lo hi mx = some E) : PureOK P o s E := by
  unfold sliceEff at h
  split at h
  · cases h
  split at h
  · cases h
  rename_i ti hti
  split at h
  · cases h
  rename_i c v hx
  split at h
  · rename_i e hd
    have ht := (hT _ _ hti).1
    rw [hd] at ht
    split at h
    · cases h
    rename_i te hte0
    have hte := hT _ _ hte0
    split at h
    · cases h
    rename_i n sz get d hs
    split at h
    · cases h
    rename_i hsz
    split at h
    · cases h
    rename_i c1 l hlo
    split at h
    · cases h
    rename_i c2 q hhi
    simp only [Option.some.injEq] at h
    subst h
    intro F w S μ a hw he hc
    obtain ⟨hc012, hcb⟩ := All.app hc
    obtain ⟨hc01, hc2⟩ := All.app hc012
    obtain ⟨hc0, hc1⟩ := All.app hc01
    have b0 : 0 ≤ l := hcb.1
    have b1 : l ≤ q := hcb.2.1
    have b2 : q ≤ (n : Int) := hcb.2.2.1
    have hse := Nat.eq_of_beq_eq_true hsz
    obtain ⟨S', hsub, hw', hr⟩ := rep_sliceOf hw (rep_arg he hx hc0) hs
    obtain ⟨A, cap, hu, g1, g2, g3⟩ := hr
    have rb := run_bounds (P := P) (isSlice := true) (len := n) (cap := cap) (ρ := a.eval) (lo := lo) (hi := hi) w (bound_ok he hlo hc1) (bound_ok he hhi hc2) b0 b1 (by omega)
    refine ⟨.slice (if cap = l.toNat then A else A.map (·.add (l.toNat * te.size))) (q.toNat - l.toNat) (cap - l.toNat), S', ?_, hsub, hw', ?_⟩
    · simp [execOp, ho, hu, Instr.sliceAt, Instr.slice, run_underlying ht, rb, run_sizeOf' hte]
    · have e1 : (q - l).toNat = q.toNat - l.toNat := by omega
      rw [e1]
      refine ⟨_, _, rfl, by omega, by omega, fun hn => ?_⟩
      have hn' : 0 < n := by omega
      obtain ⟨b, o', hA, hS, hcell⟩ := g3 hn'
      have hcl : cap ≠ l.toNat := by omega
      refine ⟨b, o' + l.toNat * te.size, by rw [if_neg hcl, hA]; simp [Addr.add_lit], hS, fun i hi' j hj => ?_⟩
      obtain ⟨u, h1, h2⟩ := hcell (l.toNat + i) (by omega) j hj
      refine ⟨u, ?_, h2⟩
      rw [hse]
      rw [Nat.add_mul] at h1
      rw [show o' + l.toNat * sz + i * sz + j = o' + (l.toNat * sz + i * sz) + j from by omega]
      exact h1
  · rename_i hd
    have ht := (hT _ _ hti).1
    rw [hd] at ht
    split at h
    · rename_i b hb
      split at h
      · cases h
      rename_i c1 l hlo
      split at h
      · cases h
      rename_i c2 q hhi
      simp only [Option.some.injEq] at h
      subst h
      refine PureOK.of rfl fun w S μ F act hw he hc => ?_
      obtain ⟨hc012, hcb⟩ := All.app hc
      obtain ⟨hc01, hc2⟩ := All.app hc012
      obtain ⟨hc0, hc1⟩ := All.app hc01
      have b0 : 0 ≤ l := hcb.1
      have b1 : l ≤ q := hcb.2.1
      have b2 : q ≤ (b.size : Int) := hcb.2.2.1
      have hu := (rep_scalOf hb (rep_arg he hx hc0)).1
      have rb := run_bounds (P := P) (isSlice := false) (len := b.size) (cap := b.size) (ρ := act.eval) (lo := lo) (hi := hi) w (bound_ok he hlo hc1) (bound_ok he hhi hc2) b0 b1 b2
      exact ⟨_, by simp [execOp, ho, hu, Instr.sliceAt, Instr.slice, run_underlying ht, rb], rfl, rfl⟩
    · cases h
  · cases h

def capPtrs (s : St) : List Operand → Option (List Prop × List (Nat × Nat))
  | [] => some ([], [])
  | x :: l => match arg s x with
    | some (c, .one (.ptr m off)) => match capPtrs s l with
      | some (c', r) => some (c ++ c', (m, off) :: r)
      | none => none
    | _ => none

def makeFuncEff (s : St) (f : Fn) (first captured : Array Operand) : Option Eff :=
  match f with
  | .func g => match first.toList with
    | [] => match capPtrs s captured.toList with
      | some (c, l) => some ⟨c, .one (.clo g l), []⟩
      | none => none
    | _ => none
  | _ => none

theorem capPtrs_ok {s : St} {a : Act} (he : repEnv w S μ s.env a.tmps) : ∀ {l : List Operand} {c : List Prop} {r : List (Nat × Nat)}, capPtrs s l = some (c, r) → All c → repPtrs μ r (l.map a.eval)
  | [], c, r, h, _ => by
    simp only [capPtrs, Option.some.injEq, Prod.mk.injEq] at h
    obtain ⟨rfl, rfl⟩ := h
    rfl
  | x :: l, c, r, h, hc => by
    simp only [capPtrs] at h
    split at h
    · rename_i c1 m off hx
      split at h
      · rename_i c2 r' hl
        simp only [Option.some.injEq, Prod.mk.injEq] at h
        obtain ⟨rfl, rfl⟩ := h
        obtain ⟨hc1, hc2⟩ := All.app hc
        obtain ⟨b, hb, hxe⟩ := rep_arg he hx hc1
        exact ⟨b, _, by rw [List.map_cons, hxe], hb, capPtrs_ok he hl hc2⟩
      · cases h
    · cases h

theorem makeFunc_ok {P : Program} {o : Oper} {s : St} {f : Fn} {first captured : Array Operand} (ho : o.op = .makeFunc f first captured) {E : Eff} (h : makeFuncEff s f first captured = some E) : PureOK P o s E := by
  unfold makeFuncEff at h
  split at h
  · rename_i g
    split at h
    · rename_i hf
      split at h
      · rename_i c l hl
        simp only [Option.some.injEq] at h
        subst h
        refine PureOK.of rfl fun w S μ F act hw he hc => ?_
        have hp := capPtrs_ok he hl hc
        have hfe : first = #[] := by cases first; simp_all
        subst hfe
        have hm : captured.map act.eval = (captured.toList.map act.eval).toArray := by apply Array.ext'; simp
        refine ⟨.func (.func g) #[] (captured.map act.eval), by simp [execOp, ho, Instr.makeFunc], captured.toList.map act.eval, by rw [hm], hp⟩
      · cases h
    · cases h
  · cases h

/-! ### structs put together -/
/-- The parts of a struct or of a row of elements, each at its place, in order and without a gap from off on. -/
def partsAC (T : Tab) (s : St) : List (Nat × Operand) → Option (List Prop × List (Nat × List AC))
  | [] => some ([], [])
  | (i, x) :: l => match arg s x with
    | some (c, v) => match v.cells with
      | some cs => match partsAC T s l with
        | some (c', r) => some (c ++ c', (i, cs) :: r)
        | none => none
      | none => none
    | none => none

def fillA (place : Nat → Option (Nat × Nat)) (cells : List AC) : List (Nat × List AC) → Option (List AC)
  | [] => some cells
  | (i, v) :: rest => match place i with
    | none => none
    | some (off, size) => match Nat.beq v.length size, Nat.ble (off + size) cells.length with
      | true, true => fillA place (cells.take off ++ v ++ cells.drop (off + size)) rest
      | _, _ => none

theorem reps_length {l : List AC} {us : List Value} (h : reps w S μ l us) : us.length = l.length := (reps_one h).1

theorem foldl_fill : ∀ (vs : List Value) (off k : Nat) (cs : Array Value), off + k + vs.length ≤ cs.size →
    ((vs.zipIdx k).foldl (fun cs (c, j) => cs.setIfInBounds (off + j) c) cs).toList = cs.toList.take (off + k) ++ vs ++ cs.toList.drop (off + k + vs.length)
  | [], off, k, cs, _ => by simp
  | v :: vs, off, k, cs, h => by
    simp only [List.zipIdx_cons, List.foldl_cons]
    rw [foldl_fill vs off (k + 1) (cs.setIfInBounds (off + k) v) (by simp at h ⊢; omega)]
    simp only [List.length_cons] at h
    simp only [Array.toList_setIfInBounds, List.length_cons]
    have hlt : off + k < cs.toList.length := by simp; omega
    rw [show off + (k + 1) = off + k + 1 from by omega, List.take_succ_eq_append_getElem (by simpa using hlt)]
    rw [List.take_set_of_le (by omega), List.drop_set_of_lt (by omega)]
    simp [show off + k + 1 + vs.length = off + k + (vs.length + 1) from by omega]

theorem rep_fill {place : Nat → Option (Nat × Nat)} {P : Program} : ∀ {l : List (Nat × List AC)} {vs : List (Nat × Value)} {cells : List AC} {cs : Array Value} {r : List AC},
    reps w S μ cells cs.toList → (l.length = vs.length ∧ ∀ (q i : Nat) (a : List AC), l[q]? = some (i, a) → ∃ v, vs[q]? = some (i, v) ∧ reps w S μ a v.cells.toList) → fillA place cells l = some r →
    ∃ rs, Instr.fill place cs vs = some rs ∧ reps w S μ r rs.toList
  | [], vs, cells, cs, r, hc, ⟨hl, _⟩, h => by
    have : vs = [] := List.eq_nil_of_length_eq_zero (by simpa using hl.symm)
    subst this
    simp only [fillA, Option.some.injEq] at h
    subst h
    exact ⟨cs, rfl, hc⟩
  | (i, a) :: l, vs, cells, cs, r, hc, ⟨hl, hg⟩, h => by
    obtain ⟨v, hv, hr⟩ := hg 0 i a rfl
    obtain ⟨vs', rfl⟩ : ∃ vs', vs = (i, v) :: vs' := by
      cases vs with
      | nil => simp at hv
      | cons x vs' => simp at hv; exact ⟨vs', by rw [hv]⟩
    simp only [fillA] at h
    split at h
    · cases h
    rename_i off size hp
    split at h
    · rename_i h1 h2
      have e1 := Nat.eq_of_beq_eq_true h1
      have e2 := Nat.le_of_ble_eq_true h2
      have hlen := reps_length hr
      have hclen := reps_length hc
      simp only [Array.length_toList] at hlen hclen
      have hstep : reps w S μ (cells.take off ++ a ++ cells.drop (off + size)) (v.cells.zipIdx.foldl (fun cs (c, j) => cs.setIfInBounds (off + j) c) cs).toList := by
        have := foldl_fill v.cells.toList off 0 cs (by simp; omega)
        simp only [Nat.add_zero] at this
        rw [← Array.foldl_toList, Array.toList_zipIdx, this]
        refine reps_append (reps_append (reps_take _ hc) hr) ?_
        rw [show off + v.cells.toList.length = off + size from by simp; omega]
        exact reps_drop _ hc
      obtain ⟨rs, h3, h4⟩ := rep_fill (P := P) hstep ⟨by simpa using hl, fun q i' a' hq => by simpa using hg (q + 1) i' a' (by simpa using hq)⟩ h
      refine ⟨rs, ?_, h4⟩
      simp only [Instr.fill, hp]
      rw [if_neg (by simp; omega)]
      exact h3
    · cases h

theorem partsAC_ok {T : Tab} {s : St} {a : Act} (he : repEnv w S μ s.env a.tmps) : ∀ {l : List (Nat × Operand)} {c : List Prop} {r : List (Nat × List AC)}, partsAC T s l = some (c, r) → All c →
    r.length = (l.map fun (i, x) => (i, a.eval x)).length ∧ ∀ (q i : Nat) (cs : List AC), r[q]? = some (i, cs) → ∃ v, (l.map fun (i, x) => (i, a.eval x))[q]? = some (i, v) ∧ reps w S μ cs v.cells.toList
  | [], c, r, h, _ => by
    simp only [partsAC, Option.some.injEq, Prod.mk.injEq] at h
    obtain ⟨rfl, rfl⟩ := h
    simp
  | (i, x) :: l, c, r, h, hc => by
    simp only [partsAC] at h
    split at h
    · rename_i c1 v hx
      split at h
      · rename_i cs hcs
        split at h
        · rename_i c2 r' hl
          simp only [Option.some.injEq, Prod.mk.injEq] at h
          obtain ⟨rfl, rfl⟩ := h
          obtain ⟨hc1, hc2⟩ := All.app hc
          obtain ⟨h1, h2⟩ := partsAC_ok he hl hc2
          refine ⟨by simpa using h1, fun q i' cs' hq => ?_⟩
          cases q with
          | zero =>
            simp at hq
            obtain ⟨rfl, rfl⟩ := hq
            exact ⟨a.eval x, by simp, rep_cells (rep_arg he hx hc1) hcs⟩
          | succ q =>
            obtain ⟨v', h3, h4⟩ := h2 q i' cs' (by simpa using hq)
            exact ⟨v', by simpa using h3, h4⟩
        · cases h
      · cases h
    · cases h

def placesOf (T : Tab) : List Field → Option (List (Nat × Nat))
  | [] => some []
  | f :: l => match look T f.type with
    | some tf => match placesOf T l with
      | some r => some ((f.offset, tf.size) :: r)
      | none => none
    | none => none

def nth {α : Type} : List α → Nat → Option α
  | [], _ => none
  | x :: l, i => match i with
    | 0 => some x
    | i + 1 => nth l i
theorem nth_eq {α : Type} : ∀ (l : List α) (i : Nat), nth l i = l[i]?
  | [], _ => by simp [nth]
  | _ :: _, 0 => by simp [nth]
  | _ :: l, i + 1 => by simp [nth, nth_eq l i]

def buildEff (T : Tab) (s : St) (t : Nat) (parts : Array (Nat × Operand)) : Option Eff :=
  match look T t with
  | none => none
  | some ti => match ti.desc with
    | .struct fs => match placesOf T fs.toList with
      | none => none
      | some pl => match acsOf ti.zero with
        | none => none
        | some z => match partsAC T s parts.toList with
          | none => none
          | some (c, r) => match fillA (nth pl) z r with
            | some cells => some ⟨c, .agg cells, []⟩
            | none => none
    | _ => none

theorem run_places {P : Program} {T : Tab} (hT : TabOK P T) : ∀ {l : List Field} {r : List (Nat × Nat)}, placesOf T l = some r → ∀ (w : World),
    (l.mapM fun f => (do pure (f.offset, ← sizeOf f.type) : Sem (Nat × Nat))).run P w = .ok r w
  | [], r, h, w => by
    simp only [placesOf, Option.some.injEq] at h
    subst h
    simp
  | f :: l, r, h, w => by
    simp only [placesOf] at h
    split at h
    · rename_i tf htf
      split at h
      · rename_i r' hr
        simp only [Option.some.injEq] at h
        subst h
        have := run_places hT hr w
        simp [List.mapM_cons, run_sizeOf' (hT _ _ htf)] at this ⊢
        simp [this]
      · cases h
    · cases h

theorem build_ok {P : Program} {T : Tab} (hT : TabOK P T) {o : Oper} {s : St} {t : Nat} {parts : Array (Nat × Operand)} (ho : o.op = .build t parts) {E : Eff} (h : buildEff T s t parts = some E) : PureOK P o s E := by
  unfold buildEff at h
  split at h
  · cases h
  rename_i ti hti
  split at h
  · rename_i fs hd
    split at h
    · cases h
    rename_i pl hpl
    split at h
    · cases h
    rename_i z hz
    split at h
    · cases h
    rename_i c r hr
    split at h
    · rename_i cells hcells
      simp only [Option.some.injEq] at h
      subst h
      refine PureOK.of rfl fun w S μ F act hw he hc => ?_
      obtain ⟨h1, i, zv, h2, h3, h4, h5, h6, _⟩ := hT _ _ hti
      rw [hd] at h1
      have hzr : reps w S μ z zv.cells.toList := by rw [h6]; exact rep_acsOf hz
      obtain ⟨rs, h7, h8⟩ := rep_fill (P := P) hzr (partsAC_ok he hr hc) hcells
      have hp := run_places hT hpl w
      have hplace : (fun i => nth pl i) = fun i => pl.toArray[i]? := by
        funext i
        rw [nth_eq]
        simp
      refine ⟨.agg rs, ?_, rs.toList, by simp, h8⟩
      have hm : (fs.mapM fun f => (do pure (f.offset, ← sizeOf f.type) : Sem (Nat × Nat))).run P w = .ok pl.toArray w := by
        rw [Array.mapM_eq_mapM_toList, Sem.run_map, hp]
        rfl
      have hfill : Instr.fill (fun i => pl.toArray[i]?) zv.cells (parts.map fun (i, x) => (i, act.eval x)).toList = some rs := by
        rw [← hplace]
        simpa using h7
      have hz' : (zeroValue t).run P w = .ok zv w := by simp [zeroValue, typeInfo, h2, h5]
      have hb : (Instr.build t (parts.map fun (i, x) => (i, act.eval x))).run P w = .ok (.agg rs) w := by
        unfold Instr.build
        rw [Sem.run_bind, hz', Result.andThen_ok, Sem.run_bind, run_underlying h1, Result.andThen_ok]
        simp only []
        rw [Sem.run_bind, hm, Result.andThen_ok, hfill]
        rfl
      simp only [execOp, ho]
      rw [Sem.run_bind, hb]
      rfl
    · cases h
  · cases h
end
end Go.Eng

/- A program logic over abstract states, part H: operations that make or write memory. -/
namespace Go.Eng
open Go

def putEnv (dst : Option Nat) (v : AV) (env : List (Nat × AV)) : List (Nat × AV) :=
  match dst with
  | some d => (d, v) :: env
  | none => env

def St.app (s : St) (dst : Option Nat) (E : Eff) : St :=
  match s with
  | ⟨env, mem⟩ => ⟨putEnv dst E.val env, E.mem ++ mem⟩

def dstOK (N : Nat) : Option Nat → Bool
  | some d => Nat.blt d N
  | none => true

/-- What is owed of any operation. nb: the names that it may take. -/
def StepOK (P : Program) (o : Oper) (s : St) (E : Eff) (nb : Nat → Prop) : Prop :=
  ∀ (F : Fr) (w : World) (S : Nat → Prop) (μ : Mu) (a : Act), Wp F w S μ s.mem → repEnv w S μ s.env a.tmps → (∀ m, nb m → μ m = none) → All E.cond → ∀ (K : Act → World → Prop) (Q : Exit → Act → World → Prop),
    (∀ u w' S' μ', Kp w w' S S' μ μ' → Wp F w' S' μ' (E.mem ++ s.mem) → repAV w' S' μ' E.val u → (∀ m, ¬ nb m → μ' m = μ m) → K (a.put o.dst u) w') → o.wp P a w K Q

theorem PureOK.step {P : Program} {o : Oper} {s : St} {E : Eff} (h : PureOK P o s E) (nb : Nat → Prop) : StepOK P o s E nb := by
  intro F w S μ a hw he _ hc K Q hK
  obtain ⟨u, S', h1, h2, h3, h4⟩ := h F w S μ a hw he hc
  unfold Oper.wp
  rw [h1]
  exact hK u w S' μ ⟨h2, fun _ _ => rfl, fun _ _ h => h⟩ h3 h4 (fun _ _ => rfl)

theorem wp_value {P : Program} {o : Oper} {a : Act} {w w' : World} {u : Value} {K : Act → World → Prop} {Q : Exit → Act → World → Prop} (h : (execOp a.eval o).run P w = .ok (.value u) w') (hK : K (a.put o.dst u) w') : o.wp P a w K Q := by
  unfold Oper.wp
  rw [h]
  exact hK

theorem wp_skip' {P : Program} {o : Oper} {a : Act} {w w' : World} {K : Act → World → Prop} {Q : Exit → Act → World → Prop} (h : (execOp a.eval o).run P w = .ok .skip w') (hK : K (a.put o.dst undef) w') : o.wp P a w K Q := by
  unfold Oper.wp
  rw [h]
  exact hK

section
variable {P : Program} {T : Tab}

theorem run_zero {t : Nat} {ti : TyI} (h : TOK P t ti) (w : World) : ∃ z, (zeroValue t).run P w = .ok z w ∧ z.cells = ti.zero.toArray := by
  obtain ⟨_, i, z, h1, _, _, h4, h5, _⟩ := h
  exact ⟨z, by simp [zeroValue, typeInfo, h1, h4], h5⟩

theorem alloc_eq (w : World) (o : Obj) : ({ heap := w.heap.push o, tape := w.tape, drawn := w.drawn, os := w.os, output := w.output } : World) = w.alloc o := rfl

/-! ### a new variable -/
def allocEff (T : Tab) (d t : Nat) : Option Eff :=
  match look T t with
  | none => none
  | some ti => match acsOf ti.zero with
    | some cells => some ⟨[], .one (.ptr d 0), [(d, .box t cells)]⟩
    | none => none

theorem alloc_ok (hT : TabOK P T) {o : Oper} {s : St} {d t : Nat} (ho : o.op = .alloc t) {E : Eff} (h : allocEff T d t = some E) : StepOK P o s E (· = d) := by
  unfold allocEff at h
  split at h
  · cases h
  rename_i ti hti
  split at h
  · rename_i cells hz
    simp only [Option.some.injEq] at h
    subst h
    intro F w S μ a hw he hnb hc K Q hK
    obtain ⟨z, h1, h2⟩ := run_zero (hT _ _ hti) w
    have hd := hnb d rfl
    have hr : reps w S μ cells z.cells.toList := by rw [h2]; exact rep_acsOf hz
    have hn := hw.newBox hd hr t
    refine wp_value (u := .pointer (some ⟨w.heap.size, 0, none⟩)) (w' := w.alloc (.cells z.cells t)) ?_ (hK _ _ S _ (Kp.alloc hw.Sb hd _ _) (by simpa using hn) ⟨_, setμ_same _ _ _, rfl⟩ (fun m hm => setμ_ne _ _ hm))
    simp [execOp, ho, Instr.alloc, h1, newVar, newRow, newObj, Sem.run]
  · cases h

def boxEff (s : St) (d t : Nat) (x : Operand) : Option Eff :=
  match arg s x with
  | some (c, v) => match v.cells with
    | some cells => some ⟨c, .one (.ptr d 0), [(d, .box t cells)]⟩
    | none => none
  | none => none

theorem box_ok {o : Oper} {s : St} {d t : Nat} {x : Operand} (ho : o.op = .box t x) {E : Eff} (h : boxEff s d t x = some E) : StepOK P o s E (· = d) := by
  unfold boxEff at h
  split at h
  · rename_i c v hx
    split at h
    · rename_i cells hcs
      simp only [Option.some.injEq] at h
      subst h
      intro F w S μ a hw he hnb hc K Q hK
      have hd := hnb d rfl
      have hr := rep_cells (rep_arg he hx hc) hcs
      have hn := hw.newBox hd hr t
      refine wp_value (u := .pointer (some ⟨w.heap.size, 0, none⟩)) (w' := w.alloc (.cells (a.eval x).cells t)) ?_ (hK _ _ S _ (Kp.alloc hw.Sb hd _ _) (by simpa using hn) ⟨_, setμ_same _ _ _, rfl⟩ (fun m hm => setμ_ne _ _ hm))
      simp [execOp, ho, Instr.box, newVar, newRow, newObj, Sem.run]
    · cases h
  · cases h

/-! ### a slice literal -/
def zerosA (z : List AC) (sz : Nat) (k : Nat) : Nat → List AC
  | 0 => []
  | c + 1 => (match nth z (k % sz) with | some a => a | none => .nil) :: zerosA z sz (k + 1) c

theorem rep_zerosA {w : World} {S : Nat → Prop} {μ : Mu} {z : List AC} {zv : Array Value} (h : reps w S μ z zv.toList) (hz : 0 < zv.size) : ∀ (c k : Nat), reps w S μ (zerosA z zv.size k c) ((List.range' k c).map fun i => zv[i % zv.size]!)
  | 0, k => rfl
  | c + 1, k => by
    simp only [zerosA, List.range'_succ, List.map_cons]
    refine ⟨_, _, rfl, ?_, rep_zerosA h hz c (k + 1)⟩
    have hlt : k % zv.size < zv.size := Nat.mod_lt _ hz
    have hlen := reps_length h
    have hs : ∃ x, z[k % zv.size]? = some x := ⟨_, List.getElem?_eq_getElem (by rw [← hlen]; simpa using hlt)⟩
    obtain ⟨x, hx⟩ := hs
    obtain ⟨u, h1, h2⟩ := reps_get h _ x hx
    rw [nth_eq, hx]
    have : zv[k % zv.size]! = u := by
      rw [getElem!_pos zv _ hlt]
      have h3 : zv.toList[k % zv.size]? = some zv[k % zv.size] := by simp [hlt]
      rw [h3] at h1
      injection h1
    rw [this]
    exact h2

def cellAt (xs : List Cell) (sz i j : Nat) : Cell :=
  match nth xs (i * sz + j) with
  | some x => x
  | none => .val (.bool false)

def buildSliceEff (T : Tab) (s : St) (d t len : Nat) (parts : Array (Nat × Operand)) : Option Eff :=
  match look T t with
  | none => none
  | some ti => match ti.desc with
    | .slice e => match look T e with
      | none => none
      | some te => match acsOf te.zero with
        | none => none
        | some z => match partsAC T s parts.toList with
          | none => none
          | some (c, r) => match fillA (fun i => some (i * te.size, te.size)) (zerosA z te.size 0 (len * te.size)) r with
            | none => none
            | some cells => match toCells s.mem cells with
              | none => none
              | some (xs, dl) => match Nat.ble 1 te.size, Nat.beq te.zero.length te.size, Nat.ble (len * te.size) 16777216 with
                | true, true, true => some ⟨c, .one (.own d), (d, .row e te.size len (cellAt xs te.size)) :: dl⟩
                | _, _, _ => none
    | _ => none

theorem buildSlice_ok (hT : TabOK P T) {o : Oper} {s : St} {d t len : Nat} {parts : Array (Nat × Operand)} (ho : o.op = .buildSlice t len parts) {E : Eff} (h : buildSliceEff T s d t len parts = some E) : StepOK P o s E (· = d) := by
  unfold buildSliceEff at h
  split at h
  · cases h
  rename_i ti hti
  split at h
  · rename_i e hd
    split at h
    · cases h
    rename_i te hte0
    have hte := hT _ _ hte0
    split at h
    · cases h
    rename_i z hz
    split at h
    · cases h
    rename_i c r hr
    split at h
    · cases h
    rename_i cells hcells
    split at h
    · cases h
    rename_i xs dl hxs
    split at h
    · rename_i hs1 hs2 hs3
      simp only [Option.some.injEq] at h
      subst h
      intro F w S μ act hw he hnb hc K Q hK
      have hd0 := hnb d rfl
      have g1 := Nat.le_of_ble_eq_true hs1
      have g2 := Nat.eq_of_beq_eq_true hs2
      have g3 := Nat.le_of_ble_eq_true hs3
      have ht := (hT _ _ hti).1
      rw [hd] at ht
      obtain ⟨zv, h1, h2⟩ := run_zero hte w
      have hzr : reps w S μ z zv.cells.toList := by rw [h2]; exact rep_acsOf hz
      have hzs : zv.cells.size = te.size := by rw [h2]; simpa using g2
      have hzeros : reps w S μ (zerosA z te.size 0 (len * te.size)) ((Array.range (len * te.size)).map (fun i => zv.cells[i % zv.cells.size]!)).toList := by
        have := rep_zerosA (w := w) (S := S) (μ := μ) hzr (by omega) (len * te.size) 0
        rw [hzs] at this
        rw [hzs]
        simpa [List.range_eq_range'] using this
      obtain ⟨rs, h3, h4⟩ := rep_fill (P := P) hzeros (partsAC_ok he hr hc) hcells
      obtain ⟨S', hsub, hw', hcs⟩ := rep_toCells hw h4 hxs
      have hlen : rs.toList.length = len * te.size := by
        have a1 : ∀ (l : List (Nat × List AC)) (cs r' : List AC), fillA (fun i => some (i * te.size, te.size)) cs l = some r' → r'.length = cs.length := by
          intro l
          induction l with
          | nil => intro cs r' hf; simp only [fillA, Option.some.injEq] at hf; rw [hf]
          | cons x l ih =>
            obtain ⟨i, v⟩ := x
            intro cs r' hf
            simp only [fillA] at hf
            split at hf
            · rename_i e1 e2
              have b1 := Nat.eq_of_beq_eq_true e1
              have b2 := Nat.le_of_ble_eq_true e2
              rw [ih _ _ hf]
              simp
              omega
            · cases hf
        have a2 := reps_length hzeros
        have a3 := reps_length h4
        rw [a3, a1 _ _ _ hcells, ← a2]
        simp
      have hget : ∀ i, i < len → ∀ j, j < te.size → ∃ x, rs.toList[i * te.size + j]? = some x ∧ rep w S' (cellAt xs te.size i j) x := by
        intro i hi j hj
        obtain ⟨l1, l2⟩ := repCs_get hcs
        have hlt : i * te.size + j < xs.length := by
          rw [← l1, hlen]
          calc i * te.size + j < i * te.size + te.size := by omega
            _ = (i + 1) * te.size := by rw [Nat.add_mul, Nat.one_mul]
            _ ≤ len * te.size := Nat.mul_le_mul_right _ hi
        obtain ⟨u, hu1, hu2⟩ := l2 _ _ (List.getElem?_eq_getElem hlt)
        refine ⟨u, hu1, ?_⟩
        unfold cellAt
        rw [nth_eq, List.getElem?_eq_getElem hlt]
        exact hu2
      have hmax : len ≤ maxLen := by
        have : len ≤ len * te.size := Nat.le_mul_of_pos_right _ g1
        unfold maxLen
        omega
      have hn := hw'.newRow hd0 (e := e) hlen hmax hget
      have k1 : Kp w w S S' μ μ := ⟨hsub, fun _ _ => rfl, fun _ _ h => h⟩
      refine wp_value (u := .slice (some ⟨w.heap.size, 0, none⟩) len len) (w' := w.alloc (.cells rs e)) ?_ (hK _ _ S' _ (k1.trans (Kp.alloc hw'.Sb hd0 _ _)) (by simpa using hn) ⟨setμ_same _ _ _, _, _, _, rfl⟩ (fun m hm => setμ_ne _ _ hm))
      have hb : (Instr.buildSlice t len (parts.map fun (i, x) => (i, act.eval x))).run P w = .ok (.slice (some ⟨w.heap.size, 0, none⟩) len len) (w.alloc (.cells rs e)) := by
        unfold Instr.buildSlice
        rw [Sem.run_bind, run_underlying ht, Result.andThen_ok]
        simp only []
        rw [Sem.run_bind, run_sizeOf' hte, Result.andThen_ok, if_neg (by omega)]
        have hf : Instr.fill (fun i => some (i * te.size, te.size)) ((Array.range (len * te.size)).map fun i => zv.cells[i % zv.cells.size]!) (parts.map fun (i, x) => (i, act.eval x)).toList = some rs := by simpa using h3
        by_cases h0 : len * te.size = 0
        · rw [if_pos h0, Sem.run_bind, Sem.run_pure, Result.andThen_ok]
          have hf' : Instr.fill (fun i => some (i * te.size, te.size)) ((Array.range (len * te.size)).map fun i => (#[] : Array Value)[i % (#[] : Array Value).size]!) (parts.map fun (i, x) => (i, act.eval x)).toList = some rs := by
            rw [← hf]
            congr 1
            simp [h0]
          rw [hf']
          simp [newRow, newObj, Sem.run]
        · rw [if_neg h0, Sem.run_bind, h1, Result.andThen_ok, Sem.run_bind, Sem.run_pure, Result.andThen_ok, hf]
          simp [newRow, newObj, Sem.run]
      simp only [execOp, ho]
      rw [Sem.run_bind, hb]
      rfl
    · cases h
  · cases h
end
end Go.Eng

/- A program logic over abstract states, part I: stores and appends. -/
namespace Go.Eng
open Go

section
variable {P : Program} {T : Tab}

def withRun (get : Nat → Nat → Cell) (xs : List Cell) (i j : Nat) : Nat → Nat → Cell :=
  fun i' j' => match Nat.beq i' i with
    | true => match Nat.ble j j' with
      | true => match nth xs (j' - j) with
        | some x => x
        | none => get i' j'
      | false => get i' j'
    | false => get i' j'

def storeEff (T : Tab) (s : St) (t : Nat) (x v : Operand) : Option Eff :=
  match look T t with
  | none => none
  | some ti => match arg s v with
    | none => none
    | some (c', av) => match av.cells with
      | none => none
      | some vc => match Nat.beq vc.length ti.size with
        | false => none
        | true => match arg s x with
          | some (c, .one (.ptr m off)) => match look s.mem m with
            | some (.box ty cells) => match Nat.ble (off + ti.size) cells.length with
              | true => some ⟨c ++ c', .un, [(m, .box ty (cells.take off ++ vc ++ cells.drop (off + ti.size)))]⟩
              | false => none
            | _ => none
          | some (c, .one (.pow m sz i j)) => match toCells s.mem vc with
            | none => none
            | some (xs, dl) => match look (dl ++ s.mem) m with
              | some (.row e sz' n get) => match Nat.beq sz sz', Nat.ble (j + ti.size) sz with
                | true, true => some ⟨c ++ c' ++ [i < n], .un, (m, .row e sz n (withRun get xs i j)) :: dl⟩
                | _, _ => none
              | _ => none
          | _ => none

theorem run_storeVar' {t : Nat} {ti : TyI} (h : TOK P t ti) {w : World} {b o ty : Nat} {cur : Array Value} (hb : w.heap[b]? = some (.cells cur ty (0, 0))) {v : Value} (hl : v.cells.size = ti.size) (hle : o + ti.size ≤ cur.size)
    (h1 : ∀ u ∈ v.cells.toList, u.oneCell' = true) :
    (storeVar t ⟨b, o, none⟩ v).run P w = .ok () (w.setRow b (cur.toList.take o ++ v.cells.toList ++ cur.toList.drop (o + ti.size)).toArray) := by
  have := run_storeCells_at P b o ty v.cells.toList 0 cur w hb (by simp; omega) h1
  simp only [Nat.add_zero] at this
  rw [show o + v.cells.toList.length = o + ti.size from by simp [hl]] at this
  simp [storeVar, run_sizeOf' h, hl, this]

theorem store_ok (hT : TabOK P T) {o : Oper} {s : St} {t : Nat} {x v : Operand} (ho : o.op = .store t x v) {E : Eff} (h : storeEff T s t x v = some E) : StepOK P o s E (fun _ => False) := by
  unfold storeEff at h
  split at h
  · cases h
  rename_i ti hti
  have ht := hT _ _ hti
  split at h
  · cases h
  rename_i c' av hv
  split at h
  · cases h
  rename_i vc hvc
  split at h
  · cases h
  rename_i hsz0
  have hsz := Nat.eq_of_beq_eq_true hsz0
  have fin : ∀ {a : Act} {ad : Addr} {w w' : World}, a.eval x = .pointer (some ad) → (storeVar t ad (a.eval v)).run P w = .ok () w' → (execOp a.eval o).run P w = .ok .skip w' := by
    intro a ad w w' hx hs
    simp [execOp, ho, Instr.storeAt, hx, Instr.sureAddr, hs]
  split at h
  · rename_i c m off hx
    split at h
    · rename_i ty cells hm
      split at h
      · rename_i hle0
        have hle := Nat.le_of_ble_eq_true hle0
        simp only [Option.some.injEq] at h
        subst h
        intro F w S μ a hw he _ hc K Q hK
        obtain ⟨hc1, hc2⟩ := All.app hc
        obtain ⟨b, hb, hxe⟩ := rep_arg he hx hc1
        have hvr := rep_cells (rep_arg he hv hc2) hvc
        obtain ⟨b', us, h1, h2, h3, h4, h5⟩ := box_cells hw hm
        rw [hb] at h1
        injection h1 with h1
        injection h1 with h1
        injection h1 with h1
        injection h1 with h1
        subst h1
        have hvl : (a.eval v).cells.size = ti.size := by
          have := reps_length hvr
          simp only [Array.length_toList] at this
          omega
        have hrun := run_storeVar' ht h2 (o := off) hvl (by simp; omega) (reps_one hvr).2
        have hO : Owns μ s.mem m b := ⟨_, _, hm, rfl, hb, List.mem_singleton.2 rfl⟩
        have hs := hw.sep m b hO
        have k : ∀ cs, Kp w (w.setRow b cs) S S μ μ := fun cs => ⟨fun _ h => h, fun b' hb' => setRow_other w b b' cs (by rintro rfl; exact hs.1 hb'), fun _ _ h => h⟩
        have hwr := hw.write hO (us.take off ++ (a.eval v).cells.toList ++ us.drop (off + ti.size)).toArray (.box ty (cells.take off ++ vc ++ cells.drop (off + ti.size))) (fun v' hv' b' hb' => ⟨_, v', hm, rfl, hv', hb'⟩)
          ⟨b, _, hb, setRow_heap w b _ _ ty _ h2, reps_append (reps_append (reps_take _ ((k _).acs _ _ h3)) ((k _).acs _ _ hvr)) (reps_drop _ ((k _).acs _ _ h3))⟩
        exact wp_skip' (fin hxe (by simpa using hrun)) (hK undef _ S μ (k _) hwr trivial (fun _ _ => rfl))
      · cases h
    · cases h
  · rename_i c m sz i j hx
    split at h
    · cases h
    rename_i xs dl hxs
    split at h
    · rename_i e sz' n get hm
      split at h
      · rename_i hs1 hs2
        have hse := Nat.eq_of_beq_eq_true hs1
        have hle := Nat.le_of_ble_eq_true hs2
        subst hse
        simp only [Option.some.injEq] at h
        subst h
        intro F w S μ a hw0 he _ hc K Q hK
        obtain ⟨hc12, hc3⟩ := All.app hc
        obtain ⟨hc1, hc2⟩ := All.app hc12
        have hin : i < n := hc3.1
        obtain ⟨b, n', cap', hb, hxe⟩ := rep_arg he hx hc1
        have hvr := rep_cells (rep_arg he hv hc2) hvc
        obtain ⟨S', hsub, hw, hcs⟩ := rep_toCells hw0 hvr hxs
        obtain ⟨v', ys, h1, h2, h3⟩ := hw.res m _ hm
        rw [hb] at h1
        injection h1 with h1
        subst h1
        have hO : Owns μ (dl ++ s.mem) m b := ⟨_, _, hm, rfl, hb, List.mem_singleton.2 rfl⟩
        have hs := hw.sep m b hO
        rcases h2.2 with ⟨e1, _⟩ | ⟨g, cap, cur, e1, hg0, hh, hnc, hcm, hcsz, htake⟩
        · cases e1
        injection e1 with e1 e2 e3
        injection e1 with e1
        injection e1 with e1
        subst e1 e2 e3
        have hlen2 := (repCs_get hcs).1
        have hvl : (a.eval v).cells.size = ti.size := by
          have := reps_length hvr
          simp only [Array.length_toList] at this
          omega
        have hxl : xs.length = ti.size := by rw [← hlen2]; simpa using hvl
        have hfit : i * sz + j + ti.size ≤ n' * sz := by
          calc i * sz + j + ti.size ≤ i * sz + sz := by omega
            _ = (i + 1) * sz := by rw [Nat.add_mul, Nat.one_mul]
            _ ≤ n' * sz := Nat.mul_le_mul_right _ hin
        have hcap : n' * sz ≤ cur.size := by rw [hcsz]; exact Nat.mul_le_mul_right _ hnc
        have hrun := run_storeVar' ht hh (o := i * sz + j) hvl (by omega) (reps_one hvr).2
        have k : ∀ cs, Kp w (w.setRow b cs) S' S' μ μ := fun cs => ⟨fun _ h => h, fun b' hb' => setRow_other w b b' cs (by rintro rfl; exact hs.1 hb'), fun _ _ h => h⟩
        let cs' := (cur.toList.take (i * sz + j) ++ (a.eval v).cells.toList ++ cur.toList.drop (i * sz + j + ti.size)).toArray
        have hcs' : cs'.size = cur.size := by
          simp only [cs', List.size_toArray, List.length_append, List.length_take, List.length_drop, Array.length_toList, hvl]
          omega
        have hnew : ∀ q, cs'.toList[q]? = if q < i * sz + j then cur.toList[q]? else if q < i * sz + j + ti.size then (a.eval v).cells.toList[q - (i * sz + j)]? else cur.toList[q]? := by
          intro q
          have lt : (cur.toList.take (i * sz + j)).length = i * sz + j := by rw [List.length_take, Array.length_toList]; omega
          have lt2 : (cur.toList.take (i * sz + j) ++ (a.eval v).cells.toList).length = i * sz + j + ti.size := by rw [List.length_append, lt, Array.length_toList, hvl]
          show ((cur.toList.take (i * sz + j) ++ (a.eval v).cells.toList ++ cur.toList.drop (i * sz + j + ti.size)).toArray.toList)[q]? = _
          rw [List.toList_toArray]
          by_cases q1 : q < i * sz + j
          · rw [if_pos q1, List.getElem?_append_left (by omega), List.getElem?_append_left (by omega), List.getElem?_take, if_pos q1]
          · rw [if_neg q1]
            by_cases q2 : q < i * sz + j + ti.size
            · rw [if_pos q2, List.getElem?_append_left (by omega), List.getElem?_append_right (by omega), lt]
            · rw [if_neg q2, List.getElem?_append_right (by omega), lt2, List.getElem?_drop]
              congr 1
              omega
        have hyl : ys.length = n' * sz := h2.1
        have hys : ∀ q, q < n' * sz → ys[q]? = cur.toList[q]? := by
          intro q hq
          rw [← htake, List.getElem?_take, if_pos hq]
        have hwr := hw.write hO cs' (.row e sz n' (withRun get xs i j)) (fun v' hv' b' hb' => ⟨_, v', hm, rfl, hv', hb'⟩)
          ⟨_, cs'.toList.take (n' * sz), hb, ⟨by rw [List.length_take, Array.length_toList]; omega, .inr ⟨b, cap', cs', rfl, hg0, setRow_heap w b _ _ e _ hh, hnc, hcm, by omega, rfl⟩⟩, fun i' hi' j' hj' => by
            have hq : i' * sz + j' < n' * sz := by
              calc i' * sz + j' < i' * sz + sz := by omega
                _ = (i' + 1) * sz := by rw [Nat.add_mul, Nat.one_mul]
                _ ≤ n' * sz := Nat.mul_le_mul_right _ hi'
            obtain ⟨x0, hx0, hr0⟩ := h3 i' hi' j' hj'
            have hr0' := rep_keep (k cs').sub (k cs').wd _ _ hr0
            rw [hys _ hq] at hx0
            rw [List.getElem?_take, if_pos hq, hnew]
            have old : ∀ (c : Prop) [Decidable c], (c → ∃ x, (a.eval v).cells.toList[i' * sz + j' - (i * sz + j)]? = some x ∧ rep (w.setRow b cs') S' (withRun get xs i j i' j') x) → (¬ c → withRun get xs i j i' j' = get i' j') →
                ∃ x, (if c then (a.eval v).cells.toList[i' * sz + j' - (i * sz + j)]? else cur.toList[i' * sz + j']?) = some x ∧ rep (w.setRow b cs') S' (withRun get xs i j i' j') x := by
              intro c _ hc1 hc2
              by_cases hcc : c
              · rw [if_pos hcc]; exact hc1 hcc
              · rw [if_neg hcc, hc2 hcc]; exact ⟨x0, hx0, hr0'⟩
            by_cases hii : i' = i
            · subst hii
              by_cases hjj : j ≤ j'
              · rw [if_neg (by omega)]
                have hw1 : withRun get xs i' j i' j' = match nth xs (j' - j) with | some x => x | none => get i' j' := by
                  simp [withRun, Nat.ble_eq_true_of_le hjj]
                refine old _ (fun hlt => ?_) (fun hlt => ?_)
                · have hk : j' - j < xs.length := by omega
                  obtain ⟨u, hu1, hu2⟩ := (repCs_get hcs).2 (j' - j) _ (List.getElem?_eq_getElem hk)
                  refine ⟨u, by rw [show i' * sz + j' - (i' * sz + j) = j' - j from by omega]; exact hu1, ?_⟩
                  rw [hw1, nth_eq, List.getElem?_eq_getElem hk]
                  exact rep_keep (k cs').sub (k cs').wd _ _ hu2
                · rw [hw1, nth_eq, List.getElem?_eq_none (by omega)]
              · rw [if_pos (by omega)]
                have hb' : Nat.ble j j' = false := by
                  cases hbb : Nat.ble j j' with
                  | true => exact absurd (Nat.le_of_ble_eq_true hbb) hjj
                  | false => rfl
                exact ⟨x0, hx0, by simpa [withRun, hb'] using hr0'⟩
            · have hbb : Nat.beq i' i = false := by
                cases hq : Nat.beq i' i with
                | true => exact absurd (Nat.eq_of_beq_eq_true hq) hii
                | false => rfl
              have hsame : withRun get xs i j i' j' = get i' j' := by simp [withRun, hbb]
              rcases Nat.lt_or_gt_of_ne hii with hlt | hgt
              · have : i' * sz + sz ≤ i * sz := by rw [← Nat.succ_mul]; exact Nat.mul_le_mul_right _ hlt
                rw [if_pos (by omega), hsame]
                exact ⟨x0, hx0, hr0'⟩
              · have : i * sz + sz ≤ i' * sz := by rw [← Nat.succ_mul]; exact Nat.mul_le_mul_right _ hgt
                rw [if_neg (by omega), if_neg (by omega), hsame]
                exact ⟨x0, hx0, hr0'⟩⟩
        have k1 : Kp w w S S' μ μ := ⟨hsub, fun _ _ => rfl, fun _ _ h => h⟩
        exact wp_skip' (fin hxe hrun) (hK undef _ S' μ (k1.trans (k _)) hwr trivial (fun _ _ => rfl))
      · cases h
    · cases h
  · cases h

/-! ### append -/
def joinGet (n : Nat) (get get2 : Nat → Nat → Cell) : Nat → Nat → Cell :=
  fun i j => if i < n then get i j else get2 (i - n) j

def appendEff (T : Tab) (s : St) (d t t2 : Nat) (x y : Operand) : Option Eff :=
  match Nat.beq t t2 with
  | false => none
  | true => match look T t with
    | none => none
    | some ti => match ti.desc with
      | .slice e => match look T e with
        | none => none
        | some te => match arg s x with
          | none => none
          | some (c, v) => match arg s y with
            | none => none
            | some (c', v') => match sliceOf s.mem v' with
              | none => none
              | some (n2, sz2, get2, dl) => match Nat.ble 1 te.size, Nat.beq te.zero.length te.size with
                | true, true => match v with
                  | .one .nil => match Nat.beq te.size sz2 with
                    | true => some ⟨c ++ c' ++ [n2 ≤ 9223372036854775807, n2 * te.bytes ≤ 140737488355328], .one (.own d), (d, .row e te.size n2 get2) :: dl⟩
                    | false => none
                  | .one (.own m) => match look (dl ++ s.mem) m with
                    | some (.row e' sz n get) => match Nat.beq e e', Nat.beq te.size sz, Nat.beq te.size sz2 with
                      | true, true, true => some ⟨c ++ c' ++ [n + n2 ≤ 9223372036854775807, (n + n2) * te.bytes ≤ 140737488355328], .one (.own d), (d, .row e te.size (n + n2) (joinGet n get get2)) :: (m, .dead) :: dl⟩
                      | _, _, _ => none
                    | _ => none
                  | _ => none
                | _, _ => none
      | _ => none

theorem rep_news {w : World} {S : Nat → Prop} {n sz : Nat} {get : Nat → Nat → Cell} {b o : Nat} (h : ∀ i, i < n → ∀ j, j < sz → ∃ x, w.cell? ⟨b, o + i * sz + j, none⟩ = some x ∧ rep w S (get i j) x) :
    ∃ news : List Value, news.length = n * sz ∧ (∀ (q : Nat) (u : Value), news[q]? = some u → w.cell? ⟨b, o + q, none⟩ = some u) ∧ (∀ u ∈ news, u.oneCell' = true) ∧
      ∀ i, i < n → ∀ j, j < sz → ∃ x, news[i * sz + j]? = some x ∧ rep w S (get i j) x := by
  have hq : ∀ q : Nat, q < n * sz → ∃ x, w.cell? ⟨b, o + q, none⟩ = some x ∧ rep w S (get (q / sz) (q % sz)) x := by
    intro q hq
    have hsz : 0 < sz := by
      rcases Nat.eq_zero_or_pos sz with h0 | h0
      · rw [h0, Nat.mul_zero] at hq; omega
      · exact h0
    obtain ⟨x, h1, h2⟩ := h (q / sz) (Nat.div_lt_of_lt_mul (by rw [Nat.mul_comm]; exact hq)) (q % sz) (Nat.mod_lt _ hsz)
    refine ⟨x, ?_, h2⟩
    rw [← h1]
    congr 2
    rw [Nat.add_assoc, Nat.mul_comm (q / sz) sz, Nat.div_add_mod]
  refine ⟨List.ofFn (fun q : Fin (n * sz) => Classical.choose (hq q.1 q.2)), by simp, fun q u hu => ?_, fun u hu => ?_, fun i hi j hj => ?_⟩
  · rw [List.getElem?_ofFn] at hu
    split at hu
    · rename_i hlt
      injection hu with hu
      subst hu
      exact (Classical.choose_spec (hq q hlt)).1
    · cases hu
  · obtain ⟨q, rfl⟩ := (List.mem_ofFn).1 hu
    exact (rep_one (Classical.choose_spec (hq q.1 q.2)).2).1
  · have hlt : i * sz + j < n * sz := by
      calc i * sz + j < i * sz + sz := by omega
        _ = (i + 1) * sz := by rw [Nat.add_mul, Nat.one_mul]
        _ ≤ n * sz := Nat.mul_le_mul_right _ hi
    have this := (Classical.choose_spec (hq _ hlt)).2
    have that : (List.ofFn (fun q : Fin (n * sz) => Classical.choose (hq q.1 q.2)))[i * sz + j]? = some (Classical.choose (hq _ hlt)) := by rw [List.getElem?_ofFn, dif_pos hlt]
    generalize Classical.choose (hq _ hlt) = x at this that
    refine ⟨x, that, ?_⟩
    have e1 : (i * sz + j) / sz = i := by rw [Nat.mul_comm, Nat.mul_add_div (by omega), Nat.div_eq_of_lt hj]; omega
    have e2 : (i * sz + j) % sz = j := by rw [Nat.mul_comm, Nat.mul_add_mod, Nat.mod_eq_of_lt hj]
    rw [e1, e2] at this
    exact this

/-- What an append does, as the machine has it: v owns a row of n, u reads as n2 elements. -/
theorem run_append {t ty e : Nat} {te : TyI} (ht : P.underlying t = some (.slice e)) (hte : TOK P e te) (hsz : 0 < te.size) (hzl : te.zero.length = te.size) {w : World} {S : Nat → Prop} {v u : Value} {n n2 : Nat} {xs : List Value} {get get2 : Nat → Nat → Cell}
    (hown : w.ownsRow 0 e te.size v n xs) (hx : ∀ i, i < n → ∀ j, j < te.size → ∃ x, xs[i * te.size + j]? = some x ∧ rep w S (get i j) x) (hu : rep w S (.sl n2 te.size get2) u)
    (h63 : n + n2 ≤ 9223372036854775807) (hby : (n + n2) * te.bytes ≤ 140737488355328) :
    ∃ v' w' ys, (Builtin.append_ #[t, t] ty #[v, u]).run P w = .ok v' w' ∧ w'.ownsRow 0 e te.size v' (n + n2) ys ∧ w.grownBy w' v.ownBlock ∧ (v'.ownBlock = v.ownBlock ∨ v'.ownBlock = some w.heap.size) ∧
      ∀ i, i < n + n2 → ∀ j, j < te.size → ∃ x, ys[i * te.size + j]? = some x ∧ rep w S (joinGet n get get2 i j) x := by
  obtain ⟨_, i, z, hi, hs, hb, hz, hzc, _⟩ := hte
  obtain ⟨A, c, rfl, hnc, hcm, hcell⟩ := hu
  have old : ∀ i', i' < n → ∀ j, j < te.size → ∀ ys : List Value, ∃ x, (xs ++ ys)[i' * te.size + j]? = some x ∧ rep w S (joinGet n get get2 i' j) x := by
    intro i' hi' j hj ys
    obtain ⟨x, h1, h2⟩ := hx i' hi' j hj
    refine ⟨x, ?_, by simpa [joinGet, hi'] using h2⟩
    rw [List.getElem?_append_left]
    · exact h1
    · exact (List.getElem?_eq_some_iff.1 h1).1
  by_cases hn2 : n2 = 0
  · subst hn2
    refine ⟨v, w, xs, ?_, hown, ⟨rfl, rfl, rfl, Nat.le_refl _, fun _ _ _ => rfl⟩, .inl rfl, fun i' hi' j hj => by simpa using old i' hi' j hj []⟩
    have hle : ∃ A' c', v = .slice A' n c' ∧ n ≤ c' := by
      rcases hown.2 with ⟨rfl, rfl⟩ | ⟨g, cap, cur, rfl, _, _, hc, _⟩
      · exact ⟨_, _, rfl, Nat.le_refl _⟩
      · exact ⟨_, _, rfl, hc⟩
    obtain ⟨A', c', rfl, hc'⟩ := hle
    cases A <;> cases A' <;> simp [Builtin.append_, run_underlying ht, sizeOf, typeInfo, hi, Builtin.lenOf, hc', Builtin.firstCells, loadCells, loadCellsFrom, storeCells]
  · obtain ⟨b, o, rfl, hS, hc⟩ := hcell (by omega)
    obtain ⟨news, g1, g2, g3, g4⟩ := rep_news hc
    obtain ⟨v', w', h1, h2, h3, _, h5⟩ := run_append_own_at w 0 t ty e i z te.size te.bytes ht hi hz hs hb (by rw [hzc]; simpa using hzl) hsz v n xs hown ⟨b, o, none⟩ n2 c news g1 (fun q u' hq => by rw [Addr.add_lit]; exact g2 q u' hq) g3 (by unfold maxLen; omega) hby (Nat.zero_le _)
    refine ⟨v', w', xs ++ news, h1, h2, h3, h5, fun i' hi' j hj => ?_⟩
    by_cases hlt : i' < n
    · exact old i' hlt j hj news
    · obtain ⟨x, k1, k2⟩ := g4 (i' - n) (by omega) j hj
      refine ⟨x, ?_, by simpa [joinGet, hlt] using k2⟩
      have : n * te.size ≤ i' * te.size := Nat.mul_le_mul_right _ (by omega)
      rw [List.getElem?_append_right (by rw [hown.1]; omega), hown.1, ← k1, Nat.sub_mul]
      congr 1
      omega

/-- Behind an append to the nil slice. -/
theorem Wp.appendedNil {F : Fr} {w : World} {S : Nat → Prop} {μ : Mu} {mem : List (Nat × Res)} (h : Wp F w S μ mem) {w' : World} {d : Nat} {e sz n' : Nat} {get' : Nat → Nat → Cell} {v' : Value} {xs : List Value} (hd : μ d = none)
    (hg : w.grownBy w' none) (hown : w'.ownsRow 0 e sz v' n' xs) (hx : ∀ i, i < n' → ∀ j, j < sz → ∃ x, xs[i * sz + j]? = some x ∧ rep w S (get' i j) x)
    (hloc : v'.ownBlock = none ∨ v'.ownBlock = some w.heap.size) :
    Wp F w' S (setμ μ d v') ((d, .row e sz n' get') :: mem) ∧ Kp w w' S S μ (setμ μ d v') := by
  have k : Kp w w' S S μ (setμ μ d v') := ⟨fun _ h => h, fun b hb => hg.block b (h.Sb b hb) (by simp), setμ_mono hd v'⟩
  have new : ∀ b, Owns (setμ μ d v') ((d, .row e sz n' get') :: mem) d b → b = w.heap.size := by
    intro b hb
    obtain ⟨_, hb⟩ := owns_cons_same hb
    have hb := (ownsRow_blk hown b hb).1
    rcases hloc with hc | hc
    · rw [hb] at hc; cases hc
    · rw [hb] at hc; injection hc
  refine ⟨Wp.upd (fun _ => False) (fun m' => m' = d) h k hg.os hg.tape hg.output hg.size (fun b hb _ => hg.block b hb (by simp)) (fun _ hb => hb.elim) (fun b hb => Nat.lt_of_lt_of_le (h.Sb b hb) hg.size) (fun _ hb => .inl hb) ?_ ?_ ?_ ?_ ?_ ?_, k⟩
  · intro m' hm; rw [look_cons, if_neg (fun e => hm e.symm)]
  · intro m' b _ hO; exact ⟨id, (h.sep m' b hO).1⟩
  · rintro m' r' rfl hl'
    rw [look_cons, if_pos rfl] at hl'
    injection hl' with hl'
    subst hl'
    refine ⟨v', xs, setμ_same _ _ _, hown, fun i hi j hj => ?_⟩
    obtain ⟨x, h1, h2⟩ := hx i hi j hj
    exact ⟨x, h1, rep_keep k.sub k.wd _ _ h2⟩
  · rintro m' b rfl hO
    obtain rfl := new b hO
    exact ⟨fun hs => absurd (h.Sb _ hs) (by omega), .inl h.grow.size⟩
  · rintro m' m'' b rfl rfl _ _; rfl
  · rintro m' m'' b rfl _ hO hO'
    obtain rfl := new b hO
    exact absurd (h.owns_lt hO') (by omega)

theorem ownsRow_slice {w : World} {e sz n : Nat} {v : Value} {xs : List Value} (h : w.ownsRow 0 e sz v n xs) : ∃ A c, v = .slice A n c := by
  rcases h.2 with ⟨rfl, rfl⟩ | ⟨g, cap, cur, rfl, _⟩
  · exact ⟨_, _, rfl⟩
  · exact ⟨_, _, rfl⟩

theorem append_ok (hT : TabOK P T) {o : Oper} {s : St} {d t t2 : Nat} {x y : Operand} (ho : o.op = .call { callee := .builtin .append, args := #[x, y], argTypes := #[t, t2] }) {E : Eff} (h : appendEff T s d t t2 x y = some E) : StepOK P o s E (· = d) := by
  unfold appendEff at h
  split at h
  · cases h
  rename_i htt
  obtain rfl := Nat.eq_of_beq_eq_true htt
  split at h
  · cases h
  rename_i ti hti
  split at h
  · rename_i e hd
    have ht := (hT _ _ hti).1
    rw [hd] at ht
    split at h
    · cases h
    rename_i te hte0
    have hte := hT _ _ hte0
    split at h
    · cases h
    rename_i c v hx
    split at h
    · cases h
    rename_i c' v' hy
    split at h
    · cases h
    rename_i n2 sz2 get2 dl hs
    split at h
    · rename_i hs1 hs2
      have g1 := Nat.le_of_ble_eq_true hs1
      have g2 := Nat.eq_of_beq_eq_true hs2
      have fin : ∀ {a : Act} {w w' : World} {u : Value}, (Builtin.append_ #[t, t] o.type #[a.eval x, a.eval y]).run P w = .ok u w' → (execOp a.eval o).run P w = .ok (.value u) w' := by
        intro a w w' u hr
        simp [execOp, ho, resolve, invoke, builtin, hr]
      split at h
      · split at h
        · rename_i hs3
          obtain rfl := Nat.eq_of_beq_eq_true hs3
          simp only [Option.some.injEq] at h
          subst h
          intro F w S μ a hw0 he hnb hc K Q hK
          obtain ⟨hc12, hc3⟩ := All.app hc
          obtain ⟨hc1, hc2⟩ := All.app hc12
          have hn63 : n2 ≤ 9223372036854775807 := hc3.1
          have hnby : n2 * te.bytes ≤ 140737488355328 := hc3.2.1
          have hxe : a.eval x = .slice none 0 0 := rep_arg he hx hc1
          obtain ⟨S', hsub, hw, hr⟩ := rep_sliceOf hw0 (rep_arg he hy hc2) hs
          obtain ⟨u, w', ys, r1, r2, r3, r4, r5⟩ := run_append (ty := o.type) ht hte g1 g2 (v := .slice none 0 0) (n := 0) (xs := []) (get := fun _ _ => .val (.bool false)) (World.ownsRow_nil w 0 e te.size) (fun i hi => absurd hi (by omega)) hr (by omega) (by rw [Nat.zero_add]; exact hnby)
          rw [← hxe] at r1
          simp only [Nat.zero_add] at r2 r5
          have hd0 := hnb d rfl
          obtain ⟨hwn, k⟩ := hw.appendedNil hd0 r3 r2 (get' := get2) (fun i hi j hj => by simpa [joinGet] using r5 i hi j hj) (by simpa [Value.ownBlock] using r4)
          have k1 : Kp w w S S' μ μ := ⟨hsub, fun _ _ => rfl, fun _ _ h => h⟩
          obtain ⟨A, cc, rfl⟩ := ownsRow_slice r2
          exact wp_value (fin r1) (hK _ _ S' _ (k1.trans k) (by simpa using hwn) ⟨setμ_same _ _ _, _, _, _, rfl⟩ (fun m hm => setμ_ne _ _ hm))
        · cases h
      · rename_i m
        split at h
        · rename_i e' sz n get hm
          split at h
          · rename_i hs3 hs4 hs5
            obtain rfl := Nat.eq_of_beq_eq_true hs3
            obtain rfl := Nat.eq_of_beq_eq_true hs4
            obtain rfl := Nat.eq_of_beq_eq_true hs5
            simp only [Option.some.injEq] at h
            subst h
            intro F w S μ a hw0 he hnb hc K Q hK
            obtain ⟨hc12, hc3⟩ := All.app hc
            obtain ⟨hc1, hc2⟩ := All.app hc12
            have hn63 : n + n2 ≤ 9223372036854775807 := hc3.1
            have hnby : (n + n2) * te.bytes ≤ 140737488355328 := hc3.2.1
            obtain ⟨hmu, _⟩ := rep_arg he hx hc1
            obtain ⟨S', hsub, hw, hr⟩ := rep_sliceOf hw0 (rep_arg he hy hc2) hs
            obtain ⟨v0, xs, hv0, hown, hxs⟩ := hw.res m _ hm
            rw [hmu] at hv0
            injection hv0 with hv0
            subst hv0
            obtain ⟨u, w', ys, r1, r2, r3, r4, r5⟩ := run_append (ty := o.type) ht hte g1 g2 hown hxs hr hn63 hnby
            have hd0 := hnb d rfl
            obtain ⟨hwn, k⟩ := hw.appended hd0 hm hmu r3 r2 r5 r4
            have k1 : Kp w w S S' μ μ := ⟨hsub, fun _ _ => rfl, fun _ _ h => h⟩
            obtain ⟨A, cc, rfl⟩ := ownsRow_slice r2
            exact wp_value (fin r1) (hK _ _ S' _ (k1.trans k) (by simpa using hwn) ⟨setμ_same _ _ _, _, _, _, rfl⟩ (fun m hm => setμ_ne _ _ hm))
          · cases h
        · cases h
      · cases h
    · cases h
  · cases h
end
end Go.Eng
