/- Plain laws: what Check's answer 0 says of a topology; its edges; the rows by routers. -/
import Derived.Test.YtahhejlpmacloaaPart16
namespace Go.Proofs.Ytahhejlpmacloaa
open Go Go.Eng

def ids (R : List (Int × Bool)) : List Int := R.map (·.1)
theorem rtAt_mem {R : List (Int × Bool)} {i : Nat} (h : i < R.length) : rtAt R i = R[i] := by simp [rtAt, h]
theorem lkAt_mem {L : List Lk} {i : Nat} (h : i < L.length) : lkAt L i = L[i] := by simp [lkAt, h]
theorem ids_get {R : List (Int × Bool)} {i : Nat} (h : i < R.length) : (ids R)[i]'(by simpa [ids] using h) = (rtAt R i).1 := by simp [ids, rtAt_mem h]

/-- One before the other, by A, then B. -/
def ltL (x y : Lk) : Prop := x.a < y.a ∨ (x.a = y.a ∧ x.b < y.b)

structure VT (R : List (Int × Bool)) (L : List Lk) : Prop where
  nr : R.length ≤ 24
  nl : L.length ≤ 60
  id : ∀ x ∈ ids R, 1 ≤ x ∧ x ≤ 99
  asc : (ids R).Pairwise (· < ·)
  cost : ∀ l ∈ L, (1 ≤ l.ca ∧ l.ca ≤ 1000) ∧ 1 ≤ l.cb ∧ l.cb ≤ 1000
  cap : ∀ l ∈ L, 0 ≤ l.cap ∧ l.cap ≤ 1000
  ends : ∀ l ∈ L, thereL R l.a = true ∧ thereL R l.b = true
  lt : ∀ l ∈ L, l.a < l.b
  lasc : L.Pairwise ltL

theorem pairwise_of_step {α : Type} {r : α → α → Prop} (tr : ∀ {x y z}, r x y → r y z → r x z) : ∀ {l : List α}, (∀ i (h : i + 1 < l.length), r (l[i]'(by omega)) l[i + 1]) → l.Pairwise r
  | [], _ => List.Pairwise.nil
  | [x], _ => List.pairwise_singleton _ _
  | x :: y :: l, h => by
    have ih : (y :: l).Pairwise r := pairwise_of_step (r := r) tr (fun i hi => by have := h (i + 1) (by simpa using hi); simpa using this)
    have hxy : r x y := h 0 (by simp)
    refine List.Pairwise.cons (fun z hz => ?_) ih
    rcases List.mem_cons.1 hz with rfl | hz
    · exact hxy
    · exact tr hxy (List.rel_of_pairwise_cons ih hz)

theorem cmpV_neg {x y : Int} : cmpV x y < 0 ↔ x < y := by
  unfold cmpV
  by_cases h1 : x < y
  · simp [h1]
  · by_cases h2 : x > y <;> simp [h1, h2]
theorem cmpV_zero {x y : Int} : cmpV x y = 0 ↔ x = y := by
  unfold cmpV
  by_cases h1 : x < y
  · simp [h1]; omega
  · by_cases h2 : x > y
    · simp [h1, h2]; omega
    · simp [h1, h2]; omega
theorem cmpL_neg {a b a' b' : Int} : cmpL a b a' b' < 0 ↔ a < a' ∨ (a = a' ∧ b < b') := by
  unfold cmpL orV
  by_cases h : cmpV a a' = 0
  · have := cmpV_zero.1 h
    rw [if_pos h]
    simp only [orV]
    by_cases h2 : cmpV b b' = 0
    · have := cmpV_zero.1 h2
      rw [if_pos h2]
      omega
    · rw [if_neg h2, cmpV_neg]
      omega
  · have := mt cmpV_zero.2 h
    rw [if_neg h, cmpV_neg]
    omega
theorem cmpL_zero {a b a' b' : Int} : cmpL a b a' b' = 0 ↔ a = a' ∧ b = b' := by
  unfold cmpL orV
  by_cases h : cmpV a a' = 0
  · have := cmpV_zero.1 h
    rw [if_pos h]
    simp only [orV]
    by_cases h2 : cmpV b b' = 0
    · have := cmpV_zero.1 h2
      rw [if_pos h2]
      omega
    · have := mt cmpV_zero.2 h2
      rw [if_neg h2]
      omega
  · have := mt cmpV_zero.2 h
    rw [if_neg h]
    omega

theorem vt_of_ok {R : List (Int × Bool)} {L : List Lk} (h : okB R L = true) : VT R L := by
  unfold okB checkV at h
  by_cases h1 : manyB R.length L.length = true
  · rw [if_pos h1] at h; cases h
  rw [if_neg h1] at h
  by_cases h2 : anyP (fun i => badR (rtAt R i).1) R.length = true
  · rw [if_pos h2] at h; cases h
  rw [if_neg h2] at h
  by_cases h3 : anyP (rtStep R) R.length = true
  · rw [if_pos h3] at h; cases h
  rw [if_neg h3] at h
  by_cases h4 : anyP (fun i => badC (lkAt L i).ca (lkAt L i).cb (lkAt L i).cap) L.length = true
  · rw [if_pos h4] at h; cases h
  rw [if_neg h4] at h
  by_cases h5 : anyP (fun i => !thereL R (lkAt L i).a || !thereL R (lkAt L i).b) L.length = true
  · rw [if_pos h5] at h; cases h
  rw [if_neg h5] at h
  by_cases h6 : anyP (fun i => decide ((lkAt L i).a ≥ (lkAt L i).b)) L.length = true
  · rw [if_pos h6] at h; cases h
  rw [if_neg h6] at h
  by_cases h7 : anyP (lkStep L) L.length = true
  · rw [if_pos h7] at h; cases h
  clear h
  simp only [Bool.not_eq_true] at h1 h2 h3 h4 h5 h6 h7
  have h2 := anyP_false h2
  have h3 := anyP_false h3
  have h4 := anyP_false h4
  have h5 := anyP_false h5
  have h6 := anyP_false h6
  have h7 := anyP_false h7
  have hn : R.length ≤ 24 ∧ L.length ≤ 60 := by
    unfold manyB at h1
    by_cases g : (R.length : Int) > 24
    · simp [g] at h1
    · simp [g] at h1
      omega
  have at_ : ∀ l ∈ L, ∃ i, i < L.length ∧ lkAt L i = l := by
    intro l hl
    obtain ⟨i, hi, rfl⟩ := List.getElem_of_mem hl
    exact ⟨i, hi, lkAt_mem hi⟩
  refine ⟨hn.1, hn.2, fun x hx => ?_, ?_, fun l hl => ?_, fun l hl => ?_, fun l hl => ?_, fun l hl => ?_, ?_⟩
  · obtain ⟨p, hp, rfl⟩ := List.mem_map.1 hx
    obtain ⟨i, hi, rfl⟩ := List.getElem_of_mem hp
    have := h2 i hi
    rw [rtAt_mem hi] at this
    simpa [badR] using this
  · refine pairwise_of_step (r := fun x y : Int => x < y) (fun h h' => Int.lt_trans h h') (fun i hi => ?_)
    have hi' : i + 1 < R.length := by simpa [ids] using hi
    rw [ids_get (by omega), ids_get hi']
    have := h3 (i + 1) hi'
    unfold rtStep at this
    rw [if_pos (by simp; try omega)] at this
    simpa using this
  · obtain ⟨i, hi, rfl⟩ := at_ l hl
    have := h4 i hi
    simp only [badC, Bool.or_eq_false_iff, Bool.not_eq_false', decide_eq_true_eq] at this
    exact ⟨this.1.1, this.1.2⟩
  · obtain ⟨i, hi, rfl⟩ := at_ l hl
    have := h4 i hi
    simp only [badC, Bool.or_eq_false_iff, Bool.not_eq_false', decide_eq_true_eq] at this
    exact this.2
  · obtain ⟨i, hi, rfl⟩ := at_ l hl
    simpa using h5 i hi
  · obtain ⟨i, hi, rfl⟩ := at_ l hl
    simpa using h6 i hi
  · refine pairwise_of_step (r := ltL) (fun {x y z} h h' => ?_) (fun i hi => ?_)
    · unfold ltL at *
      omega
    have := h7 (i + 1) hi
    unfold lkStep at this
    rw [if_pos (by simp)] at this
    have h8 : cmpL (lkAt L i).a (lkAt L i).b (lkAt L (i + 1)).a (lkAt L (i + 1)).b < 0 := by simpa using this
    rw [lkAt_mem (show i < L.length by omega), lkAt_mem hi] at h8
    exact cmpL_neg.1 h8

/-! ### the binary search -/
theorem bsV_spec {f : Nat → Int} {n : Nat} (mono : ∀ i j, i ≤ j → j < n → f j < 0 → f i < 0) (k : Nat) : ∀ {lo hi : Nat}, hi - lo ≤ k → lo ≤ hi → hi ≤ n → (∀ i, i < lo → f i < 0) → (∀ i, hi ≤ i → i < n → 0 ≤ f i) →
    bsV f lo hi ≤ n ∧ (∀ i, i < bsV f lo hi → f i < 0) ∧ ∀ i, bsV f lo hi ≤ i → i < n → 0 ≤ f i := by
  induction k with
  | zero =>
    intro lo hi hk hl hn h1 h2
    rw [bsV_eq, if_neg (by omega)]
    obtain rfl : lo = hi := by omega
    exact ⟨hn, h1, h2⟩
  | succ k ih =>
    intro lo hi hk hl hn h1 h2
    rw [bsV_eq]
    split
    · rename_i hlt
      split
      · rename_i hm
        exact ih (by omega) (by omega) hn (fun i hi' => mono i _ (by omega) (by omega) hm) h2
      · rename_i hm
        refine ih (by omega) (by omega) (by omega) h1 (fun i hi' hin => ?_)
        rcases Nat.lt_or_ge i hi with g | g
        · refine Int.not_lt.1 (fun hf => hm (mono _ i hi' hin hf))
        · exact h2 i g hin
    · obtain rfl : lo = hi := by omega
      exact ⟨hn, h1, h2⟩
theorem bsB_iff {f : Nat → Int} {n : Nat} (mono : ∀ i j, i ≤ j → j < n → f j < 0 → f i < 0) (uniq : ∀ i j, i < j → j < n → f j = 0 → f i < 0) : bsB f n = true ↔ ∃ i, i < n ∧ f i = 0 := by
  obtain ⟨h1, h2, h3⟩ := bsV_spec mono n (lo := 0) (hi := n) (by omega) (by omega) (Nat.le_refl _) (fun i h => by omega) (fun i h h' => by omega)
  unfold bsB
  simp only [Bool.and_eq_true, decide_eq_true_eq, beq_iff_eq]
  constructor
  · exact fun ⟨g1, g2⟩ => ⟨_, g1, g2⟩
  · rintro ⟨i, hi, hf⟩
    have hle : bsV f 0 n ≤ i := by
      refine Nat.le_of_not_lt (fun h => ?_)
      have := h2 i h
      omega
    have heq : bsV f 0 n = i := by
      rcases Nat.lt_or_ge (bsV f 0 n) i with h | h
      · have := uniq _ i h hi hf
        have := h3 (bsV f 0 n) (Nat.le_refl _) (by omega)
        omega
      · omega
    rw [heq]
    exact ⟨hi, hf⟩
theorem bsB_at {f : Nat → Int} {n : Nat} (h : bsB f n = true) : bsV f 0 n < n ∧ f (bsV f 0 n) = 0 := by
  unfold bsB at h
  simpa using h

theorem asc_lt {R : List (Int × Bool)} (h : (ids R).Pairwise (· < ·)) {i j : Nat} (hij : i < j) (hj : j < R.length) : (rtAt R i).1 < (rtAt R j).1 := by
  have := List.pairwise_iff_getElem.1 h i j (by simp [ids]; omega) (by simpa [ids] using hj) hij
  rwa [ids_get (by omega), ids_get hj] at this
theorem there_iff {R : List (Int × Bool)} (h : (ids R).Pairwise (· < ·)) {x : Int} : thereL R x = true ↔ x ∈ ids R := by
  unfold thereL
  rw [bsB_iff]
  · constructor
    · rintro ⟨i, hi, hf⟩
      have := cmpV_zero.1 hf
      rw [← this, rtAt_mem hi]
      exact List.mem_map.2 ⟨_, List.getElem_mem hi, rfl⟩
    · intro hx
      obtain ⟨p, hp, rfl⟩ := List.mem_map.1 hx
      obtain ⟨i, hi, rfl⟩ := List.getElem_of_mem hp
      exact ⟨i, hi, cmpV_zero.2 (by rw [rtAt_mem hi])⟩
  · intro i j hij hj hf
    have hf : (rtAt R j).1 < x := cmpV_neg.1 hf
    refine cmpV_neg.2 ?_
    rcases Nat.lt_or_ge i j with g | g
    · exact Int.lt_trans (asc_lt h g hj) hf
    · obtain rfl : i = j := by omega
      exact hf
  · intro i j hij hj hf
    have := cmpV_zero.1 hf
    refine cmpV_neg.2 ?_
    have := asc_lt h hij hj
    omega
theorem ltL_at {L : List Lk} (h : L.Pairwise ltL) {i j : Nat} (hij : i < j) (hj : j < L.length) : ltL (lkAt L i) (lkAt L j) := by
  have := List.pairwise_iff_getElem.1 h i j (by omega) hj hij
  rwa [lkAt_mem (show i < L.length by omega), lkAt_mem hj]
theorem link_iff {L : List Lk} (h : L.Pairwise ltL) {a b : Int} : bsB (bF37 L a b) L.length = true ↔ ∃ l ∈ L, l.a = a ∧ l.b = b := by
  rw [bsB_iff]
  · constructor
    · rintro ⟨i, hi, hf⟩
      have := cmpL_zero.1 hf
      exact ⟨lkAt L i, by rw [lkAt_mem hi]; exact List.getElem_mem hi, this⟩
    · rintro ⟨l, hl, ha, hb⟩
      obtain ⟨i, hi, rfl⟩ := List.getElem_of_mem hl
      exact ⟨i, hi, cmpL_zero.2 (by rw [lkAt_mem hi]; exact ⟨ha, hb⟩)⟩
  · intro i j hij hj hf
    have hf := cmpL_neg.1 hf
    refine cmpL_neg.2 ?_
    rcases Nat.lt_or_ge i j with g | g
    · have := ltL_at h g hj
      unfold ltL at this
      omega
    · obtain rfl : i = j := by omega
      exact hf
  · intro i j hij hj hf
    have := cmpL_zero.1 hf
    have g := ltL_at h hij hj
    unfold ltL at g
    refine cmpL_neg.2 ?_
    omega
theorem link_uniq {L : List Lk} (h : L.Pairwise ltL) {l l' : Lk} (hl : l ∈ L) (hl' : l' ∈ L) (ha : l.a = l'.a) (hb : l.b = l'.b) : l = l' := by
  obtain ⟨i, hi, rfl⟩ := List.getElem_of_mem hl
  obtain ⟨j, hj, rfl⟩ := List.getElem_of_mem hl'
  rcases Nat.lt_trichotomy i j with g | g | g
  · have := List.pairwise_iff_getElem.1 h i j hi hj g
    unfold ltL at this
    omega
  · subst g; rfl
  · have := List.pairwise_iff_getElem.1 h j i hj hi g
    unfold ltL at this
    omega

/-! ### edges -/
def Edge (L : List Lk) (x y c : Int) : Prop := ∃ l ∈ L, (l.a = x ∧ l.b = y ∧ l.ca = c) ∨ (l.b = x ∧ l.a = y ∧ l.cb = c)

theorem edge_ids {R : List (Int × Bool)} {L : List Lk} (h : VT R L) {x y c : Int} (e : Edge L x y c) : x ∈ ids R ∧ y ∈ ids R ∧ x ≠ y ∧ 1 ≤ c ∧ c ≤ 1000 := by
  obtain ⟨l, hl, he⟩ := e
  have h1 := h.ends l hl
  rw [there_iff h.asc, there_iff h.asc] at h1
  have h2 := h.cost l hl
  have h3 := h.lt l hl
  rcases he with ⟨rfl, rfl, rfl⟩ | ⟨rfl, rfl, rfl⟩
  · exact ⟨h1.1, h1.2, by omega, h2.1⟩
  · exact ⟨h1.2, h1.1, by omega, h2.2⟩
theorem edge_uniq {R : List (Int × Bool)} {L : List Lk} (h : VT R L) {x y c c' : Int} (e : Edge L x y c) (e' : Edge L x y c') : c = c' := by
  obtain ⟨l, hl, he⟩ := e
  obtain ⟨l', hl', he'⟩ := e'
  have h3 := h.lt l hl
  have h3' := h.lt l' hl'
  have key : l = l' := by
    refine link_uniq h.lasc hl hl' ?_ ?_ <;> omega
  subst key
  omega

/-- What Cost answers, of a valid topology. -/
theorem cost_iff {R : List (Int × Bool)} {L : List Lk} (h : okB R L = true) {x y c : Int} : costV R L x y = (c, true) ↔ Edge L x y c := by
  have hv := vt_of_ok h
  unfold costV
  rw [if_neg (by rw [h]; simp)]
  by_cases hb : bsB (bF37 L (min x y) (max x y)) L.length = true
  · rw [if_neg (by rw [hb]; simp)]
    obtain ⟨h1, h2⟩ := bsB_at hb
    have h3 := cmpL_zero.1 h2
    generalize hl : lkAt L (bsV (bF37 L (min x y) (max x y)) 0 L.length) = l at h3 ⊢
    have hm : l ∈ L := by rw [← hl, lkAt_mem h1]; exact List.getElem_mem h1
    have h4 := hv.lt l hm
    split
    · rename_i hxy
      simp only [Prod.mk.injEq, and_true]
      constructor
      · rintro rfl
        exact ⟨l, hm, .inl (by omega)⟩
      · exact fun e => edge_uniq hv ⟨l, hm, .inl (by omega)⟩ e
    · rename_i hxy
      simp only [Prod.mk.injEq, and_true]
      constructor
      · rintro rfl
        exact ⟨l, hm, .inr (by omega)⟩
      · exact fun e => edge_uniq hv ⟨l, hm, .inr (by omega)⟩ e
  · have hb' : bsB (bF37 L (min x y) (max x y)) L.length = false := by simpa using hb
    rw [if_pos hb']
    constructor
    · intro hh
      injection hh with _ hh
      cases hh
    · rintro ⟨l, hl, he⟩
      have h4 := hv.lt l hl
      exact absurd ((link_iff hv.lasc).2 ⟨l, hl, by omega⟩) hb
end Go.Proofs.Ytahhejlpmacloaa

/- Plain laws: the rows by routers that read makes. -/
namespace Go.Proofs.Ytahhejlpmacloaa
open Go Go.Eng

def hasK (a : AM) (k : List Int) : Prop := ∃ e ∈ a.es, e.k = k
theorem hasK_setR {a : AM} {k k' : List Int} : hasK (a.setR k) k' ↔ k' = k ∨ hasK a k' := by
  constructor
  · rintro ⟨e, he, rfl⟩
    unfold AM.setR at he
    split at he
    · exact .inr ⟨e, he, rfl⟩
    · rcases List.mem_append.1 he with he | he
      · exact .inr ⟨e, he, rfl⟩
      · rw [List.mem_singleton.1 he]
        exact .inl rfl
  · rintro (rfl | ⟨e, he, rfl⟩)
    · exact (setR_mem (a := a)).1
    · exact ⟨e, (setR_mem (a := a) (k := k)).2 e he, rfl⟩

/-- What one link gives to a router's row. -/
def nb (x : Int) (l : Lk) : List (Int × Int) := (if l.a = x then [(l.b, l.ca)] else []) ++ (if l.b = x then [(l.a, l.cb)] else [])
def rowL (L : List Lk) (x : Int) : List (Int × Int) := L.flatMap (nb x)

theorem addL_nb (F : Rows2) (l : Lk) (x : Int) : addL (addL F [l.a] (l.b, l.ca)) [l.b] (l.a, l.cb) [x] = F [x] ++ nb x l := by
  unfold nb
  by_cases h1 : l.a = x
  · by_cases h2 : l.b = x
    · simp [addL, updL, h1, h2]
    · simp [addL, updL, h1, h2, Ne.symm h2]
  · by_cases h2 : l.b = x
    · simp [addL, updL, h1, h2, Ne.symm h1]
    · simp [addL, updL, h1, h2, Ne.symm h1, Ne.symm h2]
theorem addL_other (F : Rows2) (y : Int) (p : Int × Int) {k : List Int} (h : ∀ x, k ≠ [x]) : addL F [y] p k = F k := by
  simp [addL, updL, h]

theorem rdL_F (L : List Lk) (s : RdS) : (∀ x, (L.foldl rdL s).F [x] = s.F [x] ++ rowL L x) ∧ ∀ k, (∀ x, k ≠ [x]) → (L.foldl rdL s).F k = s.F k := by
  induction L generalizing s with
  | nil => exact ⟨fun x => by simp [rowL], fun _ _ => rfl⟩
  | cons l L ih =>
    obtain ⟨h1, h2⟩ := ih (rdL s l)
    refine ⟨fun x => ?_, fun k hk => ?_⟩
    · rw [List.foldl_cons, h1]
      simp only [rdL]
      rw [addL_nb]
      simp [rowL]
    · rw [List.foldl_cons, h2 k hk]
      simp only [rdL]
      rw [addL_other _ _ _ hk, addL_other _ _ _ hk]
theorem rdAll_F (R : List (Int × Bool)) (L : List Lk) (x : Int) : (rdAll R L).F [x] = rowL L x := by
  unfold rdAll rdLs
  rw [List.take_length, (rdL_F L _).1, (rdRs_empty R R.length).1]
  rfl
theorem rdAll_F' (R : List (Int × Bool)) (L : List Lk) {k : List Int} (h : ∀ x, k ≠ [x]) : (rdAll R L).F k = [] := by
  unfold rdAll rdLs
  rw [List.take_length, (rdL_F L _).2 k h, (rdRs_empty R R.length).1]

theorem rdL_a (L : List Lk) (s : RdS) (hw : s.a.WF) : (L.foldl rdL s).a.WF ∧ ∀ k, hasK (L.foldl rdL s).a k ↔ hasK s.a k ∨ ∃ l ∈ L, k = [l.a] ∨ k = [l.b] := by
  induction L generalizing s with
  | nil => exact ⟨hw, fun k => by simp⟩
  | cons l L ih =>
    obtain ⟨h1, h2⟩ := ih (rdL s l) ((hw.setR _).setR _)
    refine ⟨h1, fun k => ?_⟩
    rw [List.foldl_cons, h2 k]
    simp only [rdL, hasK_setR, List.mem_cons, exists_eq_or_imp]
    constructor
    · rintro ((h | h | h) | h)
      · exact .inr (.inl (.inr h))
      · exact .inr (.inl (.inl h))
      · exact .inl h
      · exact .inr (.inr h)
    · rintro (h | (h | h) | h)
      · exact .inl (.inr (.inr h))
      · exact .inl (.inr (.inl h))
      · exact .inl (.inl h)
      · exact .inr h
theorem rdR_a (R : List (Int × Bool)) (s : RdS) (hw : s.a.WF) : (R.foldl (fun s r => rdR s r.1) s).a.WF ∧ ∀ k, hasK (R.foldl (fun s r => rdR s r.1) s).a k ↔ hasK s.a k ∨ ∃ x ∈ ids R, k = [x] := by
  induction R generalizing s with
  | nil => exact ⟨hw, fun k => by simp [ids]⟩
  | cons r R ih =>
    obtain ⟨h1, h2⟩ := ih (rdR s r.1) (hw.setR _)
    refine ⟨h1, fun k => ?_⟩
    rw [List.foldl_cons, h2 k]
    simp only [rdR, hasK_setR, ids, List.map_cons, List.mem_cons, exists_eq_or_imp]
    constructor
    · rintro ((h | h) | h)
      · exact .inr (.inl h)
      · exact .inl h
      · exact .inr (.inr h)
    · rintro (h | h | h)
      · exact .inl (.inr h)
      · exact .inl (.inl h)
      · exact .inr h
theorem rdAll_a (R : List (Int × Bool)) (L : List Lk) : (rdAll R L).a.WF ∧ ∀ k, hasK (rdAll R L).a k ↔ (∃ x ∈ ids R, k = [x]) ∨ ∃ l ∈ L, k = [l.a] ∨ k = [l.b] := by
  have h0 : rd0.a.WF := ⟨List.nodup_nil, List.nodup_nil, fun e he => by cases he⟩
  obtain ⟨h1, h2⟩ := rdR_a R rd0 h0
  obtain ⟨h3, h4⟩ := rdL_a L _ h1
  have e : rdAll R L = L.foldl rdL (R.foldl (fun s r => rdR s r.1) rd0) := by
    unfold rdAll rdLs rdRs
    rw [List.take_length, List.take_length]
  rw [e]
  refine ⟨h3, fun k => ?_⟩
  rw [h4, h2]
  constructor
  · rintro ((⟨e, he, _⟩ | h) | h)
    · cases he
    · exact .inl h
    · exact .inr h
  · rintro (h | h)
    · exact .inl (.inr h)
    · exact .inr h
theorem rdAll_has {R : List (Int × Bool)} {L : List Lk} (h : VT R L) (x : Int) : (rdAll R L).a.has [x] = true ↔ x ∈ ids R := by
  rw [AM.has_iff]
  show hasK _ _ ↔ _
  rw [(rdAll_a R L).2]
  constructor
  · rintro (⟨y, hy, hk⟩ | ⟨l, hl, hk⟩)
    · injection hk with hk
      rw [hk]; exact hy
    · have h1 := h.ends l hl
      rw [there_iff h.asc, there_iff h.asc] at h1
      rcases hk with hk | hk <;> injection hk with hk <;> rw [hk]
      · exact h1.1
      · exact h1.2
  · exact fun hx => .inl ⟨x, hx, rfl⟩

theorem rowL_mem {L : List Lk} {x y c : Int} : (y, c) ∈ rowL L x ↔ Edge L x y c := by
  unfold rowL Edge nb
  rw [List.mem_flatMap]
  constructor
  · rintro ⟨l, hl, h⟩
    refine ⟨l, hl, ?_⟩
    rcases List.mem_append.1 h with h | h
    · split at h
      · rename_i hx
        simp only [List.mem_singleton, Prod.mk.injEq] at h
        exact .inl ⟨hx, h.1.symm, h.2.symm⟩
      · cases h
    · split at h
      · rename_i hx
        simp only [List.mem_singleton, Prod.mk.injEq] at h
        exact .inr ⟨hx, h.1.symm, h.2.symm⟩
      · cases h
  · rintro ⟨l, hl, ⟨h1, h2, h3⟩ | ⟨h1, h2, h3⟩⟩
    · exact ⟨l, hl, by simp [h1, h2, h3]⟩
    · exact ⟨l, hl, by simp [h1, h2, h3]⟩

theorem rowL_nodup {L : List Lk} (hlt : ∀ l ∈ L, l.a < l.b) (hp : L.Pairwise ltL) (x : Int) : ((rowL L x).map (·.1)).Nodup := by
  induction L with
  | nil => simp [rowL]
  | cons l L ih =>
    obtain ⟨h1, h2⟩ := List.pairwise_cons.1 hp
    have hl := hlt l List.mem_cons_self
    have ih := ih (fun l' hl' => hlt l' (List.mem_cons_of_mem _ hl')) h2
    have hout : ∀ y c, Edge [l] x y c → y ∉ (rowL L x).map (·.1) := by
      rintro y c ⟨l0, hl0, he⟩ hy
      obtain rfl := List.mem_singleton.1 hl0
      obtain ⟨⟨y', c'⟩, hm, rfl⟩ := List.mem_map.1 hy
      obtain ⟨l', hl', he'⟩ := rowL_mem.1 hm
      have g1 := hlt l' (List.mem_cons_of_mem _ hl')
      have g2 := h1 l' hl'
      unfold ltL at g2
      dsimp only at he
      omega
    have e : rowL (l :: L) x = nb x l ++ rowL L x := by simp [rowL]
    rw [e, List.map_append, List.nodup_append]
    refine ⟨?_, ih, ?_⟩
    · unfold nb
      by_cases g1 : l.a = x
      · have g2 : ¬ l.b = x := by omega
        simp [g1, g2]
      · by_cases g2 : l.b = x <;> simp [g1, g2]
    · rintro y hy z hz rfl
      obtain ⟨⟨y', c'⟩, hm, rfl⟩ := List.mem_map.1 hy
      have hm' : (y', c') ∈ rowL [l] x := by simpa [rowL] using hm
      exact hout y' c' (rowL_mem.1 hm') hz
theorem nodup_leI {l l' : List Int} (hn : l.Nodup) (hs : ∀ x ∈ l, x ∈ l') : l.length ≤ l'.length := by
  induction l generalizing l' with
  | nil => simp
  | cons x l ih =>
    rw [List.nodup_cons] at hn
    have hx := hs x List.mem_cons_self
    have h1 : ∀ y ∈ l, y ∈ l'.erase x := fun y hy => (List.mem_erase_of_ne (by rintro rfl; exact hn.1 hy)).2 (hs y (List.mem_cons_of_mem _ hy))
    have h2 := ih hn.2 h1
    rw [List.length_erase_of_mem hx] at h2
    have : 0 < l'.length := List.length_pos_of_mem hx
    simp only [List.length_cons]
    omega
theorem rdAll_len {R : List (Int × Bool)} {L : List Lk} (h : VT R L) (k : List Int) : ((rdAll R L).F k).length ≤ R.length := by
  by_cases hk : ∃ x, k = [x]
  · obtain ⟨x, rfl⟩ := hk
    rw [rdAll_F]
    have := nodup_leI (rowL_nodup h.lt h.lasc x) (l' := ids R) (fun y hy => by
      obtain ⟨⟨y', c'⟩, hm, rfl⟩ := List.mem_map.1 hy
      exact (edge_ids h (rowL_mem.1 hm)).2.1)
    simpa [ids] using this
  · rw [rdAll_F' R L (fun x hx => hk ⟨x, hx⟩)]
    simp

/-- The rows that shortest paths are reckoned with. -/
def rowsF (R : List (Int × Bool)) (L : List Lk) : Rows2 := sortF (rdAll R L).a (rdAll R L).F
theorem rowsF_mem {R : List (Int × Bool)} {L : List Lk} {x y c : Int} : (y, c) ∈ rowsF R L [x] ↔ Edge L x y c := by
  rw [← rowL_mem, ← rdAll_F R L]
  unfold rowsF sortF
  split
  · exact (sortL_perm _ _ _).mem_iff
  · exact Iff.rfl
theorem rowsF_len (R : List (Int × Bool)) (L : List Lk) (k : List Int) : (rowsF R L k).length = ((rdAll R L).F k).length := by
  unfold rowsF sortF
  split
  · exact sortL_length _ _ _
  · rfl
theorem rows_ok {R : List (Int × Bool)} {L : List Lk} (h : VT R L) : RowsOK (rdAll R L).a (rowsF R L) := by
  refine ⟨(rdAll_a R L).1, fun e he => ?_, fun k p hp => ?_⟩
  · have hk : hasK (rdAll R L).a e.k := ⟨e, he, rfl⟩
    have hx : ∃ x, e.k = [x] := by
      rcases ((rdAll_a R L).2 _).1 hk with ⟨x, _, hx⟩ | ⟨l, _, hx | hx⟩
      · exact ⟨x, hx⟩
      · exact ⟨_, hx⟩
      · exact ⟨_, hx⟩
    obtain ⟨x, hx⟩ := hx
    refine ⟨x, ?_, hx⟩
    rw [hx] at hk
    have := h.id x ((rdAll_has h x).1 (AM.has_iff.2 hk))
    omega
  · by_cases hk : ∃ x, k = [x]
    · obtain ⟨x, rfl⟩ := hk
      obtain ⟨y, c⟩ := p
      exact (rdAll_has h y).2 (edge_ids h (rowsF_mem.1 hp)).2.1
    · have h0 := rowsF_len R L k
      rw [rdAll_F' R L (fun x hx => hk ⟨x, hx⟩)] at h0
      have := List.length_pos_of_mem hp
      rw [List.length_nil] at h0
      have h1 : (rowsF R L k).length = 0 := h0
      omega
end Go.Proofs.Ytahhejlpmacloaa

/- The walks of Distances, all, through. -/
namespace Go.Proofs.Ytahhejlpmacloaa
open Go Go.Eng

/-- The costs from a router. -/
def distA (R : List (Int × Bool)) (L : List Lk) (x : Int) : AM := distV (rdAll R L).a (rowsF R L) x
def dsL (a : AM) (l : List (Int × Bool)) : List (Int × Int) := l.filterMap fun r => (a.at? [r.1]).map fun c => (r.1, c)
/-- What Distances answers. -/
def dsV (R : List (Int × Bool)) (L : List Lk) (x : Int) : List (Int × Int) := if okB R L = true then dsL (distA R L x) R else []

theorem dsL_step {a : AM} {R : List (Int × Bool)} {k : Nat} (hk : k < R.length) : dsL a (R.take (k + 1)) = dsL a (R.take k) ++ (match a.at? [(rtAt R k).1] with | some c => [((rtAt R k).1, c)] | none => []) := by
  rw [List.take_succ_eq_append_getElem hk, rtAt_mem hk]
  unfold dsL
  rw [List.filterMap_append]
  cases h : a.at? [R[k].1] <;> simp [h]
theorem dsL_len (a : AM) (l : List (Int × Bool)) : (dsL a l).length ≤ l.length := List.length_filterMap_le _ _

def HD1 : List (Nat × FSpec) := [(62, spValid), (64, spRead), (63, spDist)]
set_option maxRecDepth 100000 in
theorem hHD1 : GOK Try.prog HD1 := GOK.cons (enters Try.func62 rfl (by kernel_rfl)) valid2_holds (GOK.cons (enters Try.func64 rfl (by kernel_rfl)) read_holds (GOK.cons (enters Try.func63 rfl (by kernel_rfl)) dist_holds hG0))

def sA (R : List (Int × Bool)) (L : List Lk) (x : Int) : St := ⟨[(1, iv x), (2, .one (.ptr 0 0))], [(0, topoB R L)]⟩
def sB (R : List (Int × Bool)) (L : List Lk) (a : AM) (l : List (Int × Int)) (k : Nat) : St :=
  ⟨[(2, .one (.ptr 0 0)), (5, .one (.map 1)), (6, .one (.own 2)), (20, .one (.c (.sl R.length 2 (rtL R)))), (21, iv R.length), (22, iv k)], [(0, topoB R L), (1, .mapI 1 0 a), (2, .row 95 2 l.length (stG l))]⟩

def spDists : FSpec
  | [.agg [.c (.sl nr 2 rt), .c (.sl nl 5 lk)], .one (.c (.val (.int .i64 x)))], [] =>
    some ⟨[nr ≤ 12, nl ≤ 1000, rtOK nr rt, lkOK nl lk], .one (.own 0), [(0, .row 95 2 (dsV (rts nr rt) (lks nl lk) x).length (stG (dsV (rts nr rt) (lks nl lk) x)))]⟩
  | _, _ => none

set_option maxRecDepth 100000 in
set_option maxHeartbeats 4000000 in
theorem dists_holds : Holds Try.prog 44 spDists := by
  refine Holds.of hT Try.func44 rfl 43 rfl fun args bs out h hc => ?_
  unfold spDists at h
  split at h
  rotate_left
  · cases h
  rename_i nr rt nl lk x
  simp only [Option.some.injEq] at h
  subst h
  obtain ⟨hn1, hn2, hr, hl, _⟩ := hc
  refine ⟨by simp, by simp [Res.live], fun F hF => ?_⟩
  have hlr := rts_length nr rt
  have hll := lks_length nl lk
  generalize hR : rts nr rt = R at hlr ⊢
  generalize hL : lks nl lk = L at hll ⊢
  refine W.seqR hT hHD1 rfl (by (repeat' (first | assumption | exact rfl | exact trivial | omega | (dsimp only; omega) | refine ⟨?_, ?_⟩ | intro _ | (simp_all; done) | fail))) ?_
  refine W.cut (ρ := [(0, some 0)]) (nx' := 1) (t := sA R L x) ?_ ?_
  · refine ⟨by rw [hF]; rfl, ?_, ?_, rfl, rfl, rfl⟩ <;> (repeat' (first | exact rfl | exact trivial | exact cellM.refl _ | exact fun _ _ _ _ => cellM.refl _ | exact fun _ => ⟨rfl, fun _ _ _ _ => cellM.refl _⟩ | refine ⟨?_, ?_⟩ | fail))
    · exact hlr.symm
    · rw [hlr, ← hR]; exact rts_cell hr
    · exact hll.symm
    · rw [hll, ← hL]; exact lks_cell hl
  have eR := rts_rtL R
  have eL := lks_lkG' L
  have okR := rtL_ok R R.length
  have okL := lkG_ok L L.length
  refine W.seq (W.seqR hT hHD1 rfl (by (repeat' (first | assumption | exact rfl | exact trivial | omega | (dsimp only; omega) | refine ⟨?_, ?_⟩ | intro _ | (simp_all; done) | fail))) (W.cond rfl (fun h1 => ?_) (fun h1 => W.skip ?_)))
  · have h1 : okB R L = false := by rw [eR, eL] at h1; simpa using h1
    have hd : dsV R L x = [] := by rw [dsV, if_neg (by rw [h1]; exact Bool.false_ne_true)]
    rw [hd]
    refine W.seqR hT hHD1 rfl (by (repeat' (first | assumption | exact rfl | exact trivial | omega | (dsimp only; omega) | refine ⟨?_, ?_⟩ | intro _ | (simp_all; done) | fail))) ?_
    refine W.ret ⟨_, [(0, none)], rfl, rfl, ?_, ?_, rfl, rfl, rfl⟩ <;> (repeat' (first | exact rfl | exact trivial | exact cellM.refl _ | exact fun _ _ _ _ => cellM.refl _ | exact fun _ => ⟨rfl, fun _ _ _ _ => cellM.refl _⟩ | refine ⟨?_, ?_⟩ | fail))
  have h1 : okB R L = true := by rw [eR, eL] at h1; simpa using h1
  have hd : dsV R L x = dsL (distA R L x) R := by rw [dsV, if_pos h1]
  rw [hd]
  have hv := vt_of_ok h1
  have h12 : ∀ k, ((rdAll R L).F k).length ≤ 12 := fun k => Nat.le_trans (rdAll_len hv k) (by omega)
  have hro : rowsOf (fun k => ((rowsF R L k).length, stG (rowsF R L k))) = rowsF R L := by
    funext k
    exact sts_stG _
  have hok : RowsOK (rdAll R L).a (rowsF R L) := rows_ok hv
  have hle : ∀ k, (rowsF R L k).length ≤ 1000000 ∧ stOK (rowsF R L k).length (stG (rowsF R L k)) := fun k => ⟨by rw [rowsF_len]; have := h12 k; omega, stG_ok _ _⟩
  refine W.seqR hT hHD1 rfl ?_ ?_
  · rw [eR, eL]
    refine ⟨by omega, by omega, okR, okL, h12, ?_, ?_, trivial⟩
    · show RowsOK (rdAll R L).a (rowsOf (fun k => ((rowsF R L k).length, stG (rowsF R L k))))
      rw [hro]
      exact hok
    · exact hle
  refine W.seqR hT hHD1 rfl (by (repeat' (first | assumption | exact rfl | exact trivial | omega | (dsimp only; omega) | refine ⟨?_, ?_⟩ | intro _ | (simp_all; done) | fail))) ?_
  refine W.seq (W.seqR hT hHD1 rfl (by (repeat' (first | assumption | exact rfl | exact trivial | omega | (dsimp only; omega) | refine ⟨?_, ?_⟩ | intro _ | (simp_all; done) | fail))) ?_)
  have hda : distA R L x = distV (rdAll R L).a (rowsF R L) x := rfl
  generalize distA R L x = a at hda ⊢
  refine W.block (W.loop (γ := { k : Nat // k ≤ R.length }) (fun k => sB R L a (dsL a (R.take k.1)) k.1) 3 (fun k => R.length - k.1) ⟨0, Nat.zero_le _⟩ [(0, some 0), (1, some 113), (2, none)] ?_ ?_)
  · refine ⟨by rw [hF]; rfl, ?_, ?_, rfl, rfl, rfl⟩ <;> (repeat' (first | exact rfl | exact trivial | exact cellM.refl _ | exact fun _ _ _ _ => cellM.refl _ | exact fun _ => ⟨rfl, fun _ _ _ _ => cellM.refl _⟩ | refine ⟨?_, ?_⟩ | fail))
    rw [hda, eR, eL]
    exact congrArg (fun f => distV (rdAll R L).a f x) hro
  rintro ⟨k, hk⟩
  dsimp only at hk ⊢
  refine W.seqR hT hHD1 rfl (by (repeat' (first | assumption | exact rfl | exact trivial | omega | (dsimp only; omega) | refine ⟨?_, ?_⟩ | intro _ | (simp_all; done) | fail))) (W.seq (W.cond rfl (fun h2 => W.skip ?_) (fun h2 => W.exit ?_)))
  rotate_left
  · have h2 : k = R.length := by have h2 : ¬ (k : Int) < (R.length : Int) := of_decide_eq_false h2; omega
    subst h2
    rw [List.take_length]
    refine W.seqR hT hHD1 rfl (by (repeat' (first | assumption | exact rfl | exact trivial | omega | (dsimp only; omega) | refine ⟨?_, ?_⟩ | intro _ | (simp_all; done) | fail))) ?_
    refine W.ret ⟨_, [(0, some 2)], rfl, rfl, ?_, ?_, rfl, rfl, rfl⟩ <;> (repeat' (first | exact rfl | exact trivial | exact cellM.refl _ | exact fun _ _ _ _ => cellM.refl _ | exact fun _ => ⟨rfl, fun _ _ _ _ => cellM.refl _⟩ | refine ⟨?_, ?_⟩ | fail))
  have h2 : k < R.length := by have h2 : (k : Int) < (R.length : Int) := of_decide_eq_true h2; omega
  have hst := dsL_step (a := a) h2
  have hln : (dsL a (R.take k)).length ≤ 1000 := by
    have := dsL_len a (R.take k)
    rw [List.length_take] at this
    omega
  generalize dsL a (R.take k) = l at hst hln ⊢
  refine W.seq (W.block ?_)
  refine W.seqR hT hHD1 rfl (by (repeat' (first | assumption | exact rfl | exact trivial | omega | (dsimp only; omega) | refine ⟨?_, ?_⟩ | intro _ | (simp_all; done) | fail))) ?_
  refine W.seqR hT hHD1 rfl (by (repeat' (first | assumption | exact rfl | exact trivial | omega | (dsimp only; omega) | refine ⟨?_, ?_⟩ | intro _ | (simp_all; done) | fail))) ?_
  refine W.seqR hT hHD1 rfl (by (repeat' (first | assumption | exact rfl | exact trivial | omega | (dsimp only; omega) | refine ⟨?_, ?_⟩ | intro _ | (simp_all; done) | fail))) (W.cond rfl (fun h3 => ?_) (fun h3 => W.skip ?_))
  · have h3 : a.has [(rtAt R k).1] = true := h3
    obtain ⟨c, hc⟩ : ∃ c, a.at? [(rtAt R k).1] = some c := by
      rw [AM.has_eq] at h3
      exact Option.isSome_iff_exists.1 h3
    have hg : a.get [(rtAt R k).1] = c := by rw [AM.get_eq, hc]; rfl
    rw [hc] at hst
    refine W.region hT hHD1 rfl (by (repeat' (first | assumption | exact rfl | exact trivial | omega | (dsimp only; omega) | refine ⟨?_, ?_⟩ | intro _ | (simp_all; done) | fail))) ?_
    refine W.region hT hHD1 rfl (by (repeat' (first | assumption | exact rfl | exact trivial | omega | (dsimp only; omega) | refine ⟨?_, ?_⟩ | intro _ | (simp_all; done) | fail))) ?_
    refine ⟨⟨k + 1, by omega⟩, [(0, some 0), (1, some 1), (2, some 339)], ?_, ?_⟩
    · dsimp only
      rw [hst]
      refine ⟨by rw [hF]; rfl, ?_, ?_, rfl, rfl, rfl⟩ <;> (repeat' (first | exact rfl | exact trivial | exact cellM.refl _ | exact fun _ _ _ _ => cellM.refl _ | exact fun _ => ⟨rfl, fun _ _ _ _ => cellM.refl _⟩ | refine ⟨?_, ?_⟩ | fail))
      · show Value.int .i64 (IntKind.i64.wrap ((k : Int) + 1)) = Value.int .i64 ((k + 1 : Nat) : Int)
        rw [wi (by omega)]
        rfl
      · simp
      · exact st_app (x := ((rtAt R k).1, c)) (by rw [← hg]; rfl)
    · dsimp only
      omega
  · have h3 : a.has [(rtAt R k).1] = false := h3
    have hc : a.at? [(rtAt R k).1] = none := by
      rw [AM.has_eq] at h3
      simpa using h3
    rw [hc, List.append_nil] at hst
    refine W.region hT hHD1 rfl (by (repeat' (first | assumption | exact rfl | exact trivial | omega | (dsimp only; omega) | refine ⟨?_, ?_⟩ | intro _ | (simp_all; done) | fail))) ?_
    refine ⟨⟨k + 1, by omega⟩, [(0, some 0), (1, some 1), (2, some 2)], ?_, ?_⟩
    · dsimp only
      rw [hst]
      refine ⟨by rw [hF]; rfl, ?_, ?_, rfl, rfl, rfl⟩ <;> (repeat' (first | exact rfl | exact trivial | exact cellM.refl _ | exact fun _ _ _ _ => cellM.refl _ | exact fun _ => ⟨rfl, fun _ _ _ _ => cellM.refl _⟩ | refine ⟨?_, ?_⟩ | fail))
      show Value.int .i64 (IntKind.i64.wrap ((k : Int) + 1)) = Value.int .i64 ((k + 1 : Nat) : Int)
      rw [wi (by omega)]
      rfl
    · dsimp only
      omega

/-! ### all -/
def putAll (x : Int) (m : AM) (l : List (Int × Int)) : AM := l.foldl (fun m p => m.set [x, p.1] p.2) m
def allK (R : List (Int × Bool)) (L : List Lk) (k : Nat) : AM := (R.take k).foldl (fun m r => putAll r.1 m (dsV R L r.1)) a0
/-- The costs between all routers. -/
def allA (R : List (Int × Bool)) (L : List Lk) : AM := allK R L R.length

theorem allK_step {R : List (Int × Bool)} {L : List Lk} {k : Nat} (hk : k < R.length) : allK R L (k + 1) = putAll (rtAt R k).1 (allK R L k) (dsV R L (rtAt R k).1) := by
  rw [allK, List.take_succ_eq_append_getElem hk, List.foldl_append, rtAt_mem hk]
  rfl
theorem putAll_step {x : Int} {m : AM} {l : List (Int × Int)} {k : Nat} (hk : k < l.length) : putAll x m (l.take (k + 1)) = (putAll x m (l.take k)).set [x, (stAt l k).1] (stAt l k).2 := by
  have e : l[k] = stAt l k := by simp [stAt, hk]
  rw [putAll, List.take_succ_eq_append_getElem hk, List.foldl_append, e]
  rfl

def HD2 : List (Nat × FSpec) := [(44, spDists)]
set_option maxRecDepth 100000 in
theorem hHD2 : GOK Try.prog HD2 := GOK.cons (enters Try.func44 rfl (by kernel_rfl)) dists_holds hG0

def lA (R : List (Int × Bool)) (L : List Lk) : St := ⟨[(1, .one (.ptr 0 0))], [(0, topoB R L)]⟩
def lB (R : List (Int × Bool)) (L : List Lk) (m : AM) (k : Nat) : St := ⟨[(1, .one (.ptr 0 0)), (3, .one (.map 1)), (10, .one (.c (.sl R.length 2 (rtL R)))), (11, iv R.length), (12, iv k)], [(0, topoB R L), (1, .mapI 2 0 m)]⟩
def lC (R : List (Int × Bool)) (L : List Lk) (m : AM) (k : Nat) (r : Int × Bool) (l : List (Int × Int)) (j : Nat) : St :=
  ⟨[(1, .one (.ptr 0 0)), (3, .one (.map 1)), (10, .one (.c (.sl R.length 2 (rtL R)))), (11, iv R.length), (12, iv k), (5, .one (.ptr 2 0)), (19, .one (.own 3)), (20, iv l.length), (21, iv j)],
    [(0, topoB R L), (1, .mapI 2 0 m), (2, .box 47 [.c (.val (.int .i64 r.1)), .c (.val (.bool r.2))]), (3, .row 95 2 l.length (stG l))]⟩
def lB' (R : List (Int × Bool)) (L : List Lk) (m : AM) (k : Nat) (r : Int × Bool) : St :=
  ⟨[(1, .one (.ptr 0 0)), (3, .one (.map 1)), (10, .one (.c (.sl R.length 2 (rtL R)))), (11, iv R.length), (12, iv k), (5, .one (.ptr 2 0))], [(0, topoB R L), (1, .mapI 2 0 m), (2, .box 47 [.c (.val (.int .i64 r.1)), .c (.val (.bool r.2))])]⟩

def spAll : FSpec
  | [.agg [.c (.sl nr 2 rt), .c (.sl nl 5 lk)]], [] =>
    some ⟨[nr ≤ 12, nl ≤ 1000, rtOK nr rt, lkOK nl lk], .one (.map 0), [(0, .mapI 2 0 (allA (rts nr rt) (lks nl lk)))]⟩
  | _, _ => none

set_option maxRecDepth 100000 in
set_option maxHeartbeats 4000000 in
theorem all_holds : Holds Try.prog 30 spAll := by
  refine Holds.of hT Try.func30 rfl 36 rfl fun args bs out h hc => ?_
  unfold spAll at h
  split at h
  rotate_left
  · cases h
  rename_i nr rt nl lk
  simp only [Option.some.injEq] at h
  subst h
  obtain ⟨hn1, hn2, hr, hl, _⟩ := hc
  refine ⟨by simp, by simp [Res.live], fun F hF => ?_⟩
  have hlr := rts_length nr rt
  have hll := lks_length nl lk
  generalize hR : rts nr rt = R at hlr ⊢
  generalize hL : lks nl lk = L at hll ⊢
  refine W.seqR hT hHD2 rfl (by (repeat' (first | assumption | exact rfl | exact trivial | omega | (dsimp only; omega) | refine ⟨?_, ?_⟩ | intro _ | (simp_all; done) | fail))) ?_
  refine W.cut (ρ := [(0, some 0)]) (nx' := 1) (t := lA R L) ?_ ?_
  · refine ⟨by rw [hF]; rfl, ?_, ?_, rfl, rfl, rfl⟩ <;> (repeat' (first | exact rfl | exact trivial | exact cellM.refl _ | exact fun _ _ _ _ => cellM.refl _ | exact fun _ => ⟨rfl, fun _ _ _ _ => cellM.refl _⟩ | refine ⟨?_, ?_⟩ | fail))
    · exact hlr.symm
    · rw [hlr, ← hR]; exact rts_cell hr
    · exact hll.symm
    · rw [hll, ← hL]; exact lks_cell hl
  have eR := rts_rtL R
  have eL := lks_lkG' L
  have okR := rtL_ok R R.length
  have okL := lkG_ok L L.length
  refine W.seqR hT hHD2 rfl (by (repeat' (first | assumption | exact rfl | exact trivial | omega | (dsimp only; omega) | refine ⟨?_, ?_⟩ | intro _ | (simp_all; done) | fail))) ?_
  refine W.seq (W.seqR hT hHD2 rfl (by (repeat' (first | assumption | exact rfl | exact trivial | omega | (dsimp only; omega) | refine ⟨?_, ?_⟩ | intro _ | (simp_all; done) | fail))) ?_)
  refine W.block (W.loop (γ := { k : Nat // k ≤ R.length }) (fun k => lB R L (allK R L k.1) k.1) 2 (fun k => R.length - k.1) ⟨0, Nat.zero_le _⟩ [(0, some 0), (1, some 1)] ?_ ?_)
  · refine ⟨by rw [hF]; rfl, ?_, ?_, rfl, rfl, rfl⟩ <;> (repeat' (first | exact rfl | exact trivial | exact cellM.refl _ | exact fun _ _ _ _ => cellM.refl _ | exact fun _ => ⟨rfl, fun _ _ _ _ => cellM.refl _⟩ | refine ⟨?_, ?_⟩ | fail))
  rintro ⟨k, hk⟩
  dsimp only at hk ⊢
  refine W.seqR hT hHD2 rfl (by (repeat' (first | assumption | exact rfl | exact trivial | omega | (dsimp only; omega) | refine ⟨?_, ?_⟩ | intro _ | (simp_all; done) | fail))) (W.seq (W.cond rfl (fun h2 => W.skip ?_) (fun h2 => W.exit ?_)))
  rotate_left
  · have h2 : k = R.length := by have h2 : ¬ (k : Int) < (R.length : Int) := of_decide_eq_false h2; omega
    subst h2
    refine W.seqR hT hHD2 rfl (by (repeat' (first | assumption | exact rfl | exact trivial | omega | (dsimp only; omega) | refine ⟨?_, ?_⟩ | intro _ | (simp_all; done) | fail))) ?_
    refine W.ret ⟨_, [(0, some 1)], rfl, rfl, ?_, ?_, rfl, rfl, rfl⟩ <;> (repeat' (first | exact rfl | exact trivial | exact cellM.refl _ | exact fun _ _ _ _ => cellM.refl _ | exact fun _ => ⟨rfl, fun _ _ _ _ => cellM.refl _⟩ | refine ⟨?_, ?_⟩ | fail))
  have h2 : k < R.length := by have h2 : (k : Int) < (R.length : Int) := of_decide_eq_true h2; omega
  have hst := allK_step (L := L) h2
  generalize allK R L k = m at hst ⊢
  generalize hrk : rtAt R k = r at hst
  refine W.seq (W.block ?_)
  refine W.seqR hT hHD2 rfl (by (repeat' (first | assumption | exact rfl | exact trivial | omega | (dsimp only; omega) | refine ⟨?_, ?_⟩ | intro _ | (simp_all; done) | fail))) ?_
  refine W.cut (ρ := [(0, some 0), (1, some 1), (2, some 50)]) (nx' := 3) (t := lB' R L m k r) ?_ ?_
  · subst hrk
    refine ⟨by rw [hF]; rfl, ?_, ?_, rfl, rfl, rfl⟩ <;> (repeat' (first | exact rfl | exact trivial | exact cellM.refl _ | exact fun _ _ _ _ => cellM.refl _ | exact fun _ => ⟨rfl, fun _ _ _ _ => cellM.refl _⟩ | refine ⟨?_, ?_⟩ | fail))
  refine W.seqR hT hHD2 rfl (by exact ⟨by omega, by omega, okR, okL, trivial⟩) ?_
  have hln : (dsV R L r.1).length ≤ 12 := by
    unfold dsV
    split
    · have := dsL_len (distA R L r.1) R
      omega
    · simp
  generalize hld : dsV R L r.1 = l at hst hln
  refine W.block (W.loop (γ := { j : Nat // j ≤ l.length }) (fun j => lC R L (putAll r.1 m (l.take j.1)) k r l j.1) 4 (fun j => l.length - j.1) ⟨0, Nat.zero_le _⟩ [(0, some 0), (1, some 1), (2, some 2), (3, some 51)] ?_ ?_)
  · refine ⟨by rw [hF]; rfl, ?_, ?_, rfl, rfl, rfl⟩ <;> (repeat' (first | exact rfl | exact trivial | exact cellM.refl _ | exact fun _ _ _ _ => cellM.refl _ | exact fun _ => ⟨rfl, fun _ _ _ _ => cellM.refl _⟩ | refine ⟨?_, ?_⟩ | fail))
    · show Value.int .i64 ((dsV (rts R.length (rtL R)) (lks L.length (lkG L)) r.1).length : Int) = Value.int .i64 (l.length : Int)
      rw [eR, eL, hld]
    · rw [eR, eL, hld]
    · rw [eR, eL, hld]
      exact fun _ _ _ _ => cellM.refl _
  rintro ⟨j, hj⟩
  dsimp only at hj ⊢
  refine W.seqR hT hHD2 rfl (by (repeat' (first | assumption | exact rfl | exact trivial | omega | (dsimp only; omega) | refine ⟨?_, ?_⟩ | intro _ | (simp_all; done) | fail))) (W.seq (W.cond rfl (fun h3 => W.skip ?_) (fun h3 => W.exit ?_)))
  rotate_left
  · have h3 : j = l.length := by have h3 : ¬ (j : Int) < (l.length : Int) := of_decide_eq_false h3; omega
    subst h3
    rw [List.take_length, ← hst]
    refine W.region hT hHD2 rfl (by (repeat' (first | assumption | exact rfl | exact trivial | omega | (dsimp only; omega) | refine ⟨?_, ?_⟩ | intro _ | (simp_all; done) | fail))) ?_
    refine ⟨⟨k + 1, by omega⟩, [(0, some 0), (1, some 1)], ?_, ?_⟩
    · dsimp only
      refine ⟨by rw [hF]; rfl, ?_, ?_, rfl, rfl, rfl⟩ <;> (repeat' (first | exact rfl | exact trivial | exact cellM.refl _ | exact fun _ _ _ _ => cellM.refl _ | exact fun _ => ⟨rfl, fun _ _ _ _ => cellM.refl _⟩ | refine ⟨?_, ?_⟩ | fail))
      show Value.int .i64 (IntKind.i64.wrap ((k : Int) + 1)) = Value.int .i64 ((k + 1 : Nat) : Int)
      rw [wi (by omega)]
      rfl
    · dsimp only
      omega
  have h3 : j < l.length := by have h3 : (j : Int) < (l.length : Int) := of_decide_eq_true h3; omega
  have hs2 := putAll_step (x := r.1) (m := m) h3
  refine W.seq (W.block ?_)
  refine W.seqR hT hHD2 rfl (by (repeat' (first | assumption | exact rfl | exact trivial | omega | (dsimp only; omega) | refine ⟨?_, ?_⟩ | intro _ | (simp_all; done) | fail))) ?_
  refine W.region hT hHD2 rfl (by (repeat' (first | assumption | exact rfl | exact trivial | omega | (dsimp only; omega) | refine ⟨?_, ?_⟩ | intro _ | (simp_all; done) | fail))) ?_
  refine W.region hT hHD2 rfl (by (repeat' (first | assumption | exact rfl | exact trivial | omega | (dsimp only; omega) | refine ⟨?_, ?_⟩ | intro _ | (simp_all; done) | fail))) ?_
  refine ⟨⟨j + 1, by omega⟩, [(0, some 0), (1, some 1), (2, some 2), (3, some 3)], ?_, ?_⟩
  · dsimp only
    rw [hs2]
    refine ⟨by rw [hF]; rfl, ?_, ?_, rfl, rfl, rfl⟩ <;> (repeat' (first | exact rfl | exact trivial | exact cellM.refl _ | exact fun _ _ _ _ => cellM.refl _ | exact fun _ => ⟨rfl, fun _ _ _ _ => cellM.refl _⟩ | refine ⟨?_, ?_⟩ | fail))
    show Value.int .i64 (IntKind.i64.wrap ((j : Int) + 1)) = Value.int .i64 ((j + 1 : Nat) : Int)
    rw [wi (by omega)]
    rfl
  · dsimp only
    omega

/-! ### through -/
def thrV (m : AM) (x d f t cost : Int) : Bool := if (if m.has [x, f] = true then m.has [t, d] else false) = true then IntKind.i64.wrap (IntKind.i64.wrap (m.get [x, f] + cost) + m.get [t, d]) == m.get [x, d] else false
def spThr : FSpec
  | [.one (.map 0), .one (.c (.val (.int .i64 x))), .one (.c (.val (.int .i64 d))), .agg [.c (.val (.int .i64 f)), .c (.val (.int .i64 t))], .one (.c (.val (.int .i64 cost)))], [.mapI 2 0 m] =>
    some ⟨[], bv' (thrV m x d f t cost), [(0, .mapI 2 0 m)]⟩
  | _, _ => none
set_option maxRecDepth 100000 in
set_option maxHeartbeats 4000000 in
theorem thr_holds : Holds Try.prog 31 spThr := by
  refine Holds.of hT Try.func31 rfl 50 rfl fun args bs out h hc => ?_
  unfold spThr at h
  split at h
  rotate_left
  · cases h
  rename_i x d f t cost m
  simp only [Option.some.injEq] at h
  subst h
  refine ⟨by simp, by simp [Res.live], fun F hF => ?_⟩
  refine W.seqR hT hG0 rfl (by (repeat' (first | assumption | exact rfl | exact trivial | omega | (dsimp only; omega) | refine ⟨?_, ?_⟩ | intro _ | (simp_all; done) | fail))) ?_
  refine W.seqR hT hG0 rfl (by (repeat' (first | assumption | exact rfl | exact trivial | omega | (dsimp only; omega) | refine ⟨?_, ?_⟩ | intro _ | (simp_all; done) | fail))) ?_
  refine W.seqR hT hG0 rfl (by (repeat' (first | assumption | exact rfl | exact trivial | omega | (dsimp only; omega) | refine ⟨?_, ?_⟩ | intro _ | (simp_all; done) | fail))) ?_
  refine W.seqR hT hG0 rfl (by exact ⟨fun _ => trivial, fun h => h, fun _ => rfl, fun _ => trivial, fun _ => trivial, fun h => ⟨h, h, rfl, trivial⟩, fun _ => trivial, fun h => ⟨h, h, rfl, trivial⟩, fun _ => trivial, fun _ => trivial, fun _ => trivial, fun h => ⟨h, h, trivial⟩, fun h => ⟨h, h, trivial⟩, fun h => ⟨h, h, rfl, trivial⟩, fun h => h, fun _ => rfl, trivial⟩) ?_
  refine W.ret ⟨_, [(0, some 0)], rfl, rfl, ?_, ?_, rfl, rfl, rfl⟩ <;> (repeat' (first | exact rfl | exact trivial | exact cellM.refl _ | exact fun _ _ _ _ => cellM.refl _ | exact fun _ => ⟨rfl, fun _ _ _ _ => cellM.refl _⟩ | refine ⟨?_, ?_⟩ | fail))
end Go.Proofs.Ytahhejlpmacloaa
