/- The walks of the sorts of at most twelve elements. -/
import Derived.Test.YtahhejlpmacloaaPart13
namespace Go.Proofs.Ytahhejlpmacloaa
open Go Go.Eng

/-! ### what an insertion sort comes to -/
section
variable {α : Type}
def swapL (d : α) (l : List α) (j : Nat) : List α := (l.set j (l.getD (j - 1) d)).set (j - 1) (l.getD j d)
def innerL (lt : α → α → Bool) (d : α) : Nat → List α → List α
  | 0, l => l
  | j + 1, l => if lt (l.getD (j + 1) d) (l.getD j d) = true then innerL lt d j (swapL d l (j + 1)) else l
def outL (lt : α → α → Bool) (d : α) : Nat → List α → List α
  | 0, l => l
  | k + 1, l => innerL lt d (k + 1) (outL lt d k l)
def sortL (lt : α → α → Bool) (d : α) (l : List α) : List α := outL lt d (l.length - 1) l
theorem swapL_length (d : α) (l : List α) (j : Nat) : (swapL d l j).length = l.length := by simp [swapL]
theorem innerL_length (lt : α → α → Bool) (d : α) : ∀ (j : Nat) (l : List α), (innerL lt d j l).length = l.length
  | 0, _ => rfl
  | j + 1, l => by
    simp only [innerL]
    split
    · rw [innerL_length lt d j, swapL_length]
    · rfl
theorem outL_length (lt : α → α → Bool) (d : α) : ∀ (k : Nat) (l : List α), (outL lt d k l).length = l.length
  | 0, _ => rfl
  | k + 1, l => by rw [outL, innerL_length, outL_length lt d k]
theorem sortL_length (lt : α → α → Bool) (d : α) (l : List α) : (sortL lt d l).length = l.length := outL_length lt d _ l
theorem swapL_get {d : α} {l : List α} {j : Nat} (h0 : 0 < j) (hj : j < l.length) (i : Nat) : (swapL d l j).getD i d = if i = j - 1 then l.getD j d else if i = j then l.getD (j - 1) d else l.getD i d := by
  unfold swapL
  simp only [List.getD_eq_getElem?_getD, List.getElem?_set, List.length_set]
  by_cases h1 : j - 1 = i
  · subst h1
    simp [show j - 1 < l.length from by omega]
  · rw [if_neg h1, if_neg (Ne.symm h1)]
    by_cases h2 : j = i
    · subst h2
      simp [hj]
    · rw [if_neg h2, if_neg (Ne.symm h2)]
theorem swapL_perm {d : α} {l : List α} {j : Nat} (h0 : 0 < j) (hj : j < l.length) : (swapL d l j).Perm l := by
  unfold swapL
  have e1 : l.getD j d = l[j] := by simp [hj]
  have e2 : l.getD (j - 1) d = l[j - 1]'(by omega) := by simp [show j - 1 < l.length from by omega]
  rw [e1, e2]
  have h := Array.swap_perm (xs := l.toArray) (i := j) (j := j - 1) (by simpa using hj) (by simp; omega)
  have := h.toList
  simpa [Array.swap] using this
theorem innerL_perm (lt : α → α → Bool) (d : α) : ∀ (j : Nat) (l : List α), j < l.length → (innerL lt d j l).Perm l
  | 0, _, _ => .refl _
  | j + 1, l, h => by
    simp only [innerL]
    split
    · exact (innerL_perm lt d j _ (by rw [swapL_length]; omega)).trans (swapL_perm (by omega) h)
    · exact .refl _
theorem outL_perm (lt : α → α → Bool) (d : α) : ∀ (k : Nat) (l : List α), k < l.length → (outL lt d k l).Perm l
  | 0, _, _ => .refl _
  | k + 1, l, h => (innerL_perm lt d _ _ (by rw [outL_length]; exact h)).trans (outL_perm lt d k l (by omega))
theorem sortL_perm (lt : α → α → Bool) (d : α) (l : List α) : (sortL lt d l).Perm l := by
  unfold sortL
  rcases Nat.eq_zero_or_pos l.length with h | h
  · rw [List.length_eq_zero_iff.1 h]
    exact .refl _
  · exact outL_perm lt d _ l (by omega)
end

/-! ### math/bits.Len of a small number -/
def spLen64 : FSpec
  | [.one (.c (.val (.int .u64 x)))], [] => some ⟨[0 ≤ x, x < 256], .one .any, []⟩
  | _, _ => none
set_option maxRecDepth 100000 in
theorem len64_holds : Holds Try.prog 55 spLen64 := by
  refine Holds.of hT Try.func55 rfl 25 rfl fun args bs out h hc => ?_
  unfold spLen64 at h
  split at h
  rotate_left
  · cases h
  rename_i x
  simp only [Option.some.injEq] at h
  subst h
  obtain ⟨h0, hx, _⟩ := hc
  refine ⟨by simp, by simp [Res.live], fun F hF => ?_⟩
  refine W.seqR hT hG0 rfl (by (repeat' (first | assumption | exact rfl | exact trivial | omega | (dsimp only; omega) | refine ⟨?_, ?_⟩ | intro _ | (simp_all; done) | fail))) ?_
  refine W.seq (W.seqR hT hG0 rfl (by (repeat' (first | assumption | exact rfl | exact trivial | omega | (dsimp only; omega) | refine ⟨?_, ?_⟩ | intro _ | (simp_all; done) | fail))) (W.cond rfl (fun h1 => ?_) (fun h1 => W.skip ?_)))
  · have h1 : x ≥ 4294967296 := of_decide_eq_true h1
    omega
  refine W.seq (W.seqR hT hG0 rfl (by (repeat' (first | assumption | exact rfl | exact trivial | omega | (dsimp only; omega) | refine ⟨?_, ?_⟩ | intro _ | (simp_all; done) | fail))) (W.cond rfl (fun h2 => ?_) (fun h2 => W.skip ?_)))
  · have h2 : x ≥ 65536 := of_decide_eq_true h2
    omega
  refine W.seq (W.seqR hT hG0 rfl (by (repeat' (first | assumption | exact rfl | exact trivial | omega | (dsimp only; omega) | refine ⟨?_, ?_⟩ | intro _ | (simp_all; done) | fail))) (W.cond rfl (fun h3 => ?_) (fun h3 => W.skip ?_)))
  · have h3 : x ≥ 256 := of_decide_eq_true h3
    omega
  have hw : IntKind.u8.wrap x = x := IntWalk.u8_in _ (by omega)
  have hw1 : 0 ≤ IntKind.u8.wrap x := by omega
  have hw2 : IntKind.u8.wrap x < 256 := by omega
  refine W.seqR hT hG0 rfl (by (repeat' (first | assumption | exact rfl | exact trivial | omega | (dsimp only; omega) | refine ⟨?_, ?_⟩ | intro _ | (simp_all; done) | fail))) ?_
  refine W.ret ⟨_, [], rfl, rfl, ?_, ?_, rfl, rfl, rfl⟩ <;> (repeat' (first | exact rfl | exact trivial | exact cellM.refl _ | exact fun _ _ _ _ => cellM.refl _ | exact fun _ => ⟨rfl, fun _ _ _ _ => cellM.refl _⟩ | refine ⟨?_, ?_⟩ | fail))
def HLn : List (Nat × FSpec) := [(55, spLen64)]
theorem hHLn : GOK Try.prog HLn := GOK.cons (enters Try.func55 rfl (by kernel_rfl)) len64_holds hG0
theorem len_holds : Holds Try.prog 33 spLen64 := by
  refine Holds.of hT Try.func33 rfl 8 rfl fun args bs out h hc => ?_
  unfold spLen64 at h
  split at h
  rotate_left
  · cases h
  rename_i x
  simp only [Option.some.injEq] at h
  subst h
  obtain ⟨h0, hx, _⟩ := hc
  refine ⟨by simp, by simp [Res.live], fun F hF => ?_⟩
  refine W.seqR hT hHLn rfl (by (repeat' (first | assumption | exact rfl | exact trivial | omega | (dsimp only; omega) | refine ⟨?_, ?_⟩ | intro _ | (simp_all; done) | fail))) ?_
  refine W.seq (W.cond rfl (fun h1 => by cases h1) (fun _ => W.skip ?_))
  refine W.seqR hT hHLn rfl (by (repeat' (first | assumption | exact rfl | exact trivial | omega | (dsimp only; omega) | refine ⟨?_, ?_⟩ | intro _ | (simp_all; done) | fail))) ?_
  refine W.ret ⟨_, [], rfl, rfl, ?_, ?_, rfl, rfl, rfl⟩ <;> (repeat' (first | exact rfl | exact trivial | exact cellM.refl _ | exact fun _ _ _ _ => cellM.refl _ | exact fun _ => ⟨rfl, fun _ _ _ _ => cellM.refl _⟩ | refine ⟨?_, ?_⟩ | fail))

/-! ### a slice of pairs -/
def stAt (l : List (Int × Int)) (i : Nat) : Int × Int := l.getD i (0, 0)
def stG (l : List (Int × Int)) (i j : Nat) : Cell := match j with
  | 0 => .val (.int .i64 (stAt l i).1)
  | _ => .val (.int .i64 (stAt l i).2)
def sts (n : Nat) (g : Get) : List (Int × Int) := (List.range n).map fun i => (cellI (g i 0), cellI (g i 1))
def stOK (n : Nat) (g : Get) : Prop := ∀ i, i < n → isI (g i 0) ∧ isI (g i 1)
theorem sts_length (n : Nat) (g : Get) : (sts n g).length = n := by simp [sts]
theorem sts_cell {n : Nat} {g : Get} (hg : stOK n g) : ∀ i, i < n → ∀ j, j < 2 → cellM (g i j) (stG (sts n g) i j) := by
  intro i hi j hj
  obtain ⟨h1, h2⟩ := hg i hi
  have e : stG (sts n g) i j = g i j := by
    match j, hj with
    | 0, _ => simp [stG, stAt, sts, hi]; exact h1.symm
    | 1, _ => simp [stG, stAt, sts, hi]; exact h2.symm
  rw [e]
  exact cellM.refl _
theorem stG_ok (l : List (Int × Int)) (n : Nat) : stOK n (stG l) := fun _ _ => ⟨rfl, rfl⟩
theorem sts_stG (l : List (Int × Int)) : sts l.length (stG l) = l := by
  apply List.ext_getElem
  · simp [sts]
  · intro i h1 h2
    simp [sts, stG, stAt, cellI, h2]

def ltS (x y : Int × Int) : Bool := decide (cmpV x.1 y.1 < 0)
theorem stG_swap {l : List (Int × Int)} {j : Nat} (h0 : 0 < j) (hj : j < l.length) (i k : Nat) (hk : k < 2) :
    withRun (withRun (stG l) [stG l (j - 1) 0, stG l (j - 1) 1] j 0) [stG l j 0, stG l j 1] (j - 1) 0 i k = stG (swapL (0, 0) l j) i k := by
  have hs := swapL_get (d := ((0, 0) : Int × Int)) h0 hj i
  have hq : stAt (swapL (0, 0) l j) i = if i = j - 1 then stAt l j else if i = j then stAt l (j - 1) else stAt l i := hs
  unfold withRun
  by_cases h1 : i = j - 1
  · rw [show Nat.beq i (j - 1) = true from by rw [h1]; exact Nat.beq_refl _]
    rw [if_pos h1] at hq
    match k, hk with
    | 0, _ => simp [stG, nth, hq]
    | 1, _ => simp [stG, nth, hq]
  · have hb : Nat.beq i (j - 1) = false := by
      cases hb : Nat.beq i (j - 1) with
      | false => rfl
      | true => exact absurd (Nat.eq_of_beq_eq_true hb) h1
    rw [hb]
    rw [if_neg h1] at hq
    by_cases h2 : i = j
    · rw [show Nat.beq i j = true from by rw [h2]; exact Nat.beq_refl _]
      rw [if_pos h2] at hq
      match k, hk with
      | 0, _ => simp [stG, nth, hq]
      | 1, _ => simp [stG, nth, hq]
    · have hb2 : Nat.beq i j = false := by
        cases hb : Nat.beq i j with
        | false => rfl
        | true => exact absurd (Nat.eq_of_beq_eq_true hb) h2
      rw [hb2]
      rw [if_neg h2] at hq
      match k, hk with
      | 0, _ => simp [stG, hq]
      | 1, _ => simp [stG, hq]

def spStep : FSpec
  | [.agg [.c (.val (.int .i64 a)), .c _], .agg [.c (.val (.int .i64 b)), .c _]], [] => some ⟨[], iv (cmpV a b), []⟩
  | _, _ => none
theorem step_holds : Holds Try.prog 82 spStep := by
  refine Holds.of hT Try.func82 rfl 10 rfl fun args bs out h hc => ?_
  unfold spStep at h
  split at h
  rotate_left
  · cases h
  rename_i a c1 b c2
  simp only [Option.some.injEq] at h
  subst h
  refine ⟨by simp, by simp [Res.live], fun F hF => ?_⟩
  refine W.seqR hT hH3 rfl (by (repeat' (first | assumption | exact rfl | exact trivial | omega | (dsimp only; omega) | refine ⟨?_, ?_⟩ | intro _ | (simp_all; done) | fail))) ?_
  refine W.seqR hT hH3 rfl (by (repeat' (first | assumption | exact rfl | exact trivial | omega | (dsimp only; omega) | refine ⟨?_, ?_⟩ | intro _ | (simp_all; done) | fail))) ?_
  refine W.ret ⟨_, [], rfl, rfl, ?_, ?_, rfl, rfl, rfl⟩ <;> (repeat' (first | exact rfl | exact trivial | exact cellM.refl _ | exact fun _ _ _ _ => cellM.refl _ | exact fun _ => ⟨rfl, fun _ _ _ _ => cellM.refl _⟩ | refine ⟨?_, ?_⟩ | fail))

def HS1 : List (Nat × FSpec) := [(82, spStep)]
theorem hHS1 : GOK Try.prog HS1 := GOK.cons (enters Try.func82 rfl (by kernel_rfl)) step_holds hG0

def isA (n : Nat) (l : List (Int × Int)) (i : Nat) : St := ⟨[(0, .one (.own 0)), (1, iv 0), (2, iv n), (3, .one (.clo 82 [])), (8, iv i)], [(0, .row 134 2 n (stG l))]⟩
def isB (n : Nat) (l : List (Int × Int)) (i j : Nat) : St := ⟨[(0, .one (.own 0)), (1, iv 0), (2, iv n), (3, .one (.clo 82 [])), (8, iv i), (9, iv j)], [(0, .row 134 2 n (stG l))]⟩

def spIns : FSpec
  | [.one (.own 0), .one (.c (.val (.int .i64 0))), .one (.c (.val (.int .i64 b))), .one (.clo 82 [])], [.row 134 2 n g] => some ⟨[b = n, n ≤ 1000000, stOK n g], .un, [(0, .row 134 2 n (stG (sortL ltS (0, 0) (sts n g))))]⟩
  | _, _ => none
set_option maxRecDepth 100000 in
theorem ins_holds : Holds Try.prog 88 spIns := by
  refine Holds.of hT Try.func88 rfl 53 rfl fun args bs out h hc => ?_
  unfold spIns at h
  split at h
  rotate_left
  · cases h
  rename_i b n g
  simp only [Option.some.injEq] at h
  subst h
  obtain ⟨rfl, hn, hg, _⟩ := hc
  refine ⟨by simp, by simp [Res.live], fun F hF => ?_⟩
  have hl0 := sts_length n g
  refine W.seqR hT hHS1 rfl (by (repeat' (first | assumption | exact rfl | exact trivial | omega | (dsimp only; omega) | refine ⟨?_, ?_⟩ | intro _ | (simp_all; done) | fail))) ?_
  refine W.block (W.loop (γ := { k : Nat // k ≤ n - 1 }) (fun k => isA n (outL ltS (0, 0) k.1 (sts n g)) (k.1 + 1)) 1 (fun k => n - k.1) ⟨0, Nat.zero_le _⟩ [(0, some 0)] ?_ ?_)
  · refine ⟨by rw [hF]; rfl, ?_, ?_, rfl, rfl, rfl⟩ <;> (repeat' (first | exact rfl | exact trivial | exact cellM.refl _ | exact fun _ _ _ _ => cellM.refl _ | exact fun _ => ⟨rfl, fun _ _ _ _ => cellM.refl _⟩ | refine ⟨?_, ?_⟩ | fail))
    exact sts_cell hg
  rintro ⟨k, hk⟩
  dsimp only at hk ⊢
  generalize hL : outL ltS (0, 0) k (sts n g) = L
  have hLl : L.length = n := by rw [← hL, outL_length, hl0]
  refine W.seq (W.seqR hT hHS1 rfl (by (repeat' (first | assumption | exact rfl | exact trivial | omega | (dsimp only; omega) | refine ⟨?_, ?_⟩ | intro _ | (simp_all; done) | fail))) (W.cond rfl (fun h1 => W.skip ?_) (fun h1 => W.exit ?_)))
  · have h1 : k + 1 < n := by have h1 : ((k + 1 : Nat) : Int) < (n : Int) := of_decide_eq_true h1; omega
    refine W.seq (W.block ?_)
    refine W.seqR hT hHS1 rfl (by (repeat' (first | assumption | exact rfl | exact trivial | omega | (dsimp only; omega) | refine ⟨?_, ?_⟩ | intro _ | (simp_all; done) | fail))) ?_
    refine W.block (W.loop (γ := { p : Nat × List (Int × Int) // p.1 ≤ k + 1 ∧ p.2.length = n ∧ innerL ltS (0, 0) p.1 p.2 = innerL ltS (0, 0) (k + 1) L }) (fun p => isB n p.1.2 (k + 1) p.1.1) 1 (fun p => p.1.1) ⟨(k + 1, L), Nat.le_refl _, hLl, rfl⟩ [(0, some 0)] ?_ ?_)
    · refine ⟨by rw [hF]; rfl, ?_, ?_, rfl, rfl, rfl⟩ <;> (repeat' (first | exact rfl | exact trivial | exact cellM.refl _ | exact fun _ _ _ _ => cellM.refl _ | exact fun _ => ⟨rfl, fun _ _ _ _ => cellM.refl _⟩ | refine ⟨?_, ?_⟩ | fail))
    rintro ⟨⟨j, l⟩, hj, hll, hin⟩
    dsimp only at hj hll hin ⊢
    have hw : 0 < j → (IntKind.i64.wrap ((j : Int) - 1)).toNat = j - 1 := fun h => by rw [wi (by omega)]; omega
    have hw0 : 0 < j → 0 ≤ IntKind.i64.wrap ((j : Int) - 1) ∧ IntKind.i64.wrap ((j : Int) - 1) < (n : Int) := fun h => by rw [wi (by omega)]; omega
    have hw1 : 0 < j → (IntKind.i64.wrap ((j : Int) - 1)).toNat < n := fun h => by rw [hw h]; omega
    refine W.seq (W.seq (W.regionDraw hT hHS1 (by repeat (first | exact runIt_nil | (apply runIt_cons; exact rfl))) (by kernel_rfl) hmix (by (repeat' (first | assumption | exact rfl | exact trivial | omega | (dsimp only; omega) | refine ⟨?_, ?_⟩ | intro _ | (simp_all; done) | fail))) ?_))
    refine W.cond rfl (fun h2 => W.skip ?_) (fun h2 => W.exit ?_)
    · have h2 : j > 0 ∧ ltS (stAt l j) (stAt l (j - 1)) = true := by
        obtain ⟨g1, g2⟩ := if_eq_imp h2
        have g1 : (j : Int) > 0 := of_decide_eq_true g1
        refine ⟨by omega, ?_⟩
        rw [hw (by omega), Int.toNat_natCast] at g2
        exact g2
      obtain ⟨j', rfl⟩ : ∃ j', j = j' + 1 := ⟨j - 1, by omega⟩
      refine W.seq (W.block (W.regionDraw hT hHS1 (by repeat (first | exact runIt_nil | (apply runIt_cons; exact rfl))) (by kernel_rfl) hmix (by (repeat' (first | assumption | exact rfl | exact trivial | omega | (dsimp only; omega) | refine ⟨?_, ?_⟩ | intro _ | (simp_all; done) | fail))) ?_))
      refine W.region hT hHS1 rfl (by (repeat' (first | assumption | exact rfl | exact trivial | omega | (dsimp only; omega) | refine ⟨?_, ?_⟩ | intro _ | (simp_all; done) | fail))) ?_
      refine ⟨⟨(j', swapL (0, 0) l (j' + 1)), by dsimp only; omega, by dsimp only; rw [swapL_length]; exact hll, ?_⟩, [(0, some 0)], ?_, ?_⟩
      · dsimp only
        rw [← hin]
        conv => rhs; rw [innerL, if_pos (show ltS (l.getD (j' + 1) (0, 0)) (l.getD j' (0, 0)) = true from h2.2)]
      · refine ⟨by rw [hF]; rfl, ?_, ?_, rfl, rfl, rfl⟩ <;> (repeat' (first | exact rfl | exact trivial | exact cellM.refl _ | exact fun _ _ _ _ => cellM.refl _ | exact fun _ => ⟨rfl, fun _ _ _ _ => cellM.refl _⟩ | refine ⟨?_, ?_⟩ | fail))
        · show Value.int .i64 (IntKind.i64.wrap (((j' + 1 : Nat) : Int) - 1)) = Value.int .i64 (j' : Int)
          rw [wi (by omega)]
          congr 1
          omega
        · intro i hi q hq
          have hw2 := hw (by omega)
          rw [hw2, Int.toNat_natCast]
          have := stG_swap (l := l) (j := j' + 1) (by omega) (by omega) i q hq
          rw [show stG (swapL (0, 0) l (j' + 1)) i q = _ from this.symm]
          exact cellM.refl _
      · dsimp only
        omega
    · have h2 : innerL ltS (0, 0) j l = l := by
        have g := if_eq_imp' h2
        cases j with
        | zero => rfl
        | succ j' =>
          have g := g (decide_eq_true (by omega))
          rw [hw (by omega), Int.toNat_natCast] at g
          rw [innerL, if_neg]
          rw [show ltS (l.getD (j' + 1) (0, 0)) (l.getD j' (0, 0)) = false from g]
          simp
      refine W.region hT hHS1 rfl (by (repeat' (first | assumption | exact rfl | exact trivial | omega | (dsimp only; omega) | refine ⟨?_, ?_⟩ | intro _ | (simp_all; done) | fail))) ?_
      refine ⟨⟨k + 1, by omega⟩, [(0, some 0)], ?_, ?_⟩
      · refine ⟨by rw [hF]; rfl, ?_, ?_, rfl, rfl, rfl⟩ <;> (repeat' (first | exact rfl | exact trivial | exact cellM.refl _ | exact fun _ _ _ _ => cellM.refl _ | exact fun _ => ⟨rfl, fun _ _ _ _ => cellM.refl _⟩ | refine ⟨?_, ?_⟩ | fail))
        · show Value.int .i64 (IntKind.i64.wrap (((k + 1 : Nat) : Int) + 1)) = Value.int .i64 ((k + 1 + 1 : Nat) : Int)
          rw [wi (by omega)]
          rfl
        · intro i hi q hq
          have : outL ltS (0, 0) (k + 1) (sts n g) = l := by rw [outL, hL, ← hin, h2]
          dsimp only
          rw [this]
          exact cellM.refl _
      · dsimp only
        omega
  · have h1 : k + 1 = n ∨ n = 0 := by have h1 : ¬ ((k + 1 : Nat) : Int) < (n : Int) := of_decide_eq_false h1; omega
    have hs : sortL ltS (0, 0) (sts n g) = L := by
      rw [sortL, hl0, ← hL]
      congr 1
      omega
    refine ⟨_, [(0, some 0)], rfl, rfl, ?_, ?_, rfl, rfl, rfl⟩ <;> (repeat' (first | exact rfl | exact trivial | exact cellM.refl _ | exact fun _ _ _ _ => cellM.refl _ | exact fun _ => ⟨rfl, fun _ _ _ _ => cellM.refl _⟩ | refine ⟨?_, ?_⟩ | fail))
    intro i hi q hq
    rw [hs]
    exact cellM.refl _

def HS2 : List (Nat × FSpec) := [(88, spIns), (33, spLen64)]
set_option maxRecDepth 100000 in
theorem hHS2 : GOK Try.prog HS2 := GOK.cons (enters Try.func88 rfl (by kernel_rfl)) ins_holds (GOK.cons (enters Try.func33 rfl (by kernel_rfl)) len_holds hG0)
def spPdq : FSpec
  | [.one (.own 0), .one (.c (.val (.int .i64 0))), .one (.c (.val (.int .i64 b))), .one .any, .one (.clo 82 [])], [.row 134 2 n g] => some ⟨[b = n, n ≤ 12, stOK n g], .un, [(0, .row 134 2 n (stG (sortL ltS (0, 0) (sts n g))))]⟩
  | _, _ => none
set_option maxRecDepth 100000 in
theorem pdq_holds : Holds Try.prog 87 spPdq := by
  refine Holds.of hT Try.func87 rfl 148 rfl fun args bs out h hc => ?_
  unfold spPdq at h
  split at h
  rotate_left
  · cases h
  rename_i b n g
  simp only [Option.some.injEq] at h
  subst h
  obtain ⟨rfl, hn, hg, _⟩ := hc
  refine ⟨by simp, by simp [Res.live], fun F hF => ?_⟩
  refine W.seqR hT hHS2 rfl (by (repeat' (first | assumption | exact rfl | exact trivial | omega | (dsimp only; omega) | refine ⟨?_, ?_⟩ | intro _ | (simp_all; done) | fail))) ?_
  refine W.seqR hT hHS2 rfl (by (repeat' (first | assumption | exact rfl | exact trivial | omega | (dsimp only; omega) | refine ⟨?_, ?_⟩ | intro _ | (simp_all; done) | fail))) ?_
  refine W.block (W.loop (γ := Unit) (fun _ => ⟨[(0, .one (.own 0)), (1, iv 0), (2, iv n), (4, .one (.clo 82 []))], [(0, .row 134 2 n g)]⟩) 1 (fun _ => 0) () [(0, some 0)] ?_ ?_)
  · refine ⟨by rw [hF]; rfl, ?_, ?_, rfl, rfl, rfl⟩ <;> (repeat' (first | exact rfl | exact trivial | exact cellM.refl _ | exact fun _ _ _ _ => cellM.refl _ | exact fun _ => ⟨rfl, fun _ _ _ _ => cellM.refl _⟩ | refine ⟨?_, ?_⟩ | fail))
  rintro ⟨⟩
  have hw : IntKind.i64.wrap ((n : Int) - 0) = n := by rw [wi (by omega)]; omega
  refine W.block ?_
  refine W.seqR hT hHS2 rfl (by (repeat' (first | assumption | exact rfl | exact trivial | omega | (dsimp only; omega) | refine ⟨?_, ?_⟩ | intro _ | (simp_all; done) | fail))) ?_
  refine W.seq (W.seqR hT hHS2 rfl (by (repeat' (first | assumption | exact rfl | exact trivial | omega | (dsimp only; omega) | refine ⟨?_, ?_⟩ | intro _ | (simp_all; done) | fail))) (W.cond rfl (fun h1 => ?_) (fun h1 => W.skip ?_)))
  · refine W.seqR hT hHS2 rfl (by (repeat' (first | assumption | exact rfl | exact trivial | omega | (dsimp only; omega) | refine ⟨?_, ?_⟩ | intro _ | (simp_all; done) | fail))) ?_
    refine W.ret ⟨_, [(0, some 0)], rfl, rfl, ?_, ?_, rfl, rfl, rfl⟩ <;> (repeat' (first | exact rfl | exact trivial | exact cellM.refl _ | exact fun _ _ _ _ => cellM.refl _ | exact fun _ => ⟨rfl, fun _ _ _ _ => cellM.refl _⟩ | refine ⟨?_, ?_⟩ | fail))
  · have h1 : ¬ IntKind.i64.wrap ((n : Int) - 0) ≤ 12 := of_decide_eq_false h1
    omega

def HS3 : List (Nat × FSpec) := [(87, spPdq), (33, spLen64)]
theorem hHS3 : GOK Try.prog HS3 := GOK.cons (enters Try.func87 rfl (by kernel_rfl)) pdq_holds (GOK.cons (enters Try.func33 rfl (by kernel_rfl)) len_holds hG0)
def spSortF : FSpec
  | [.one (.own 0), .one (.clo 82 [])], [.row 134 2 n g] => some ⟨[n ≤ 12, stOK n g], .un, [(0, .row 134 2 n (stG (sortL ltS (0, 0) (sts n g))))]⟩
  | _, _ => none
theorem sortF_holds : Holds Try.prog 81 spSortF := by
  refine Holds.of hT Try.func81 rfl 14 rfl fun args bs out h hc => ?_
  unfold spSortF at h
  split at h
  rotate_left
  · cases h
  rename_i n g
  simp only [Option.some.injEq] at h
  subst h
  obtain ⟨hn, hg, _⟩ := hc
  refine ⟨by simp, by simp [Res.live], fun F hF => ?_⟩
  have hw : IntKind.u64.wrap (n : Int) = n := IntWalk.u64_in _ (by omega)
  have hw1 : 0 ≤ IntKind.u64.wrap (n : Int) := by omega
  have hw2 : IntKind.u64.wrap (n : Int) < 256 := by omega
  refine W.seqR hT hHS3 rfl (by (repeat' (first | assumption | exact rfl | exact trivial | omega | (dsimp only; omega) | refine ⟨?_, ?_⟩ | intro _ | (simp_all; done) | fail))) ?_
  refine W.region hT hHS3 rfl ⟨hw1, hw2, rfl, hn, hg, trivial⟩ ?_
  refine ⟨_, [(0, some 0)], rfl, rfl, ?_, ?_, rfl, rfl, rfl⟩ <;> (repeat' (first | exact rfl | exact trivial | exact cellM.refl _ | exact fun _ _ _ _ => cellM.refl _ | exact fun _ => ⟨rfl, fun _ _ _ _ => cellM.refl _⟩ | refine ⟨?_, ?_⟩ | fail))

/-! ### the same of ints -/
def ltI (x y : Int) : Bool := decide (x < y)
theorem inG_swap {l : List Int} {j : Nat} (h0 : 0 < j) (hj : j < l.length) (i k : Nat) (hk : k < 1) :
    withRun (withRun (inG l) [inG l (j - 1) 0] j 0) [inG l j 0] (j - 1) 0 i k = inG (swapL 0 l j) i k := by
  have hq := swapL_get (d := (0 : Int)) h0 hj i
  obtain rfl : k = 0 := by omega
  unfold withRun
  by_cases h1 : i = j - 1
  · rw [show Nat.beq i (j - 1) = true from by rw [h1]; exact Nat.beq_refl _]
    rw [if_pos h1] at hq
    simp only [inG, nth, hq]
    rfl
  · have hb : Nat.beq i (j - 1) = false := by
      cases hb : Nat.beq i (j - 1) with
      | false => rfl
      | true => exact absurd (Nat.eq_of_beq_eq_true hb) h1
    rw [hb]
    rw [if_neg h1] at hq
    by_cases h2 : i = j
    · rw [show Nat.beq i j = true from by rw [h2]; exact Nat.beq_refl _]
      rw [if_pos h2] at hq
      simp only [inG, nth, hq]
      rfl
    · have hb2 : Nat.beq i j = false := by
        cases hb : Nat.beq i j with
        | false => rfl
        | true => exact absurd (Nat.eq_of_beq_eq_true hb) h2
      rw [hb2]
      rw [if_neg h2] at hq
      simp only [inG, hq]
def HT1 : List (Nat × FSpec) := [(51, spLess)]
theorem hHT1 : GOK Try.prog HT1 := GOK.cons (enters Try.func51 rfl (by kernel_rfl)) less_holds hG0

def iiA (n : Nat) (l : List Int) (i : Nat) : St := ⟨[(0, .one (.own 0)), (1, iv 0), (2, iv n), (6, iv i)], [(0, .row 3 1 n (inG l))]⟩
def iiB (n : Nat) (l : List Int) (i j : Nat) : St := ⟨[(0, .one (.own 0)), (1, iv 0), (2, iv n), (6, iv i), (7, iv j)], [(0, .row 3 1 n (inG l))]⟩

def spInsI : FSpec
  | [.one (.own 0), .one (.c (.val (.int .i64 0))), .one (.c (.val (.int .i64 b)))], [.row 3 1 n g] => some ⟨[b = n, n ≤ 1000000, intsOK n g], .un, [(0, .row 3 1 n (inG (sortL ltI 0 (ints n g))))]⟩
  | _, _ => none
set_option maxRecDepth 100000 in
theorem insI_holds : Holds Try.prog 45 spInsI := by
  refine Holds.of hT Try.func45 rfl 49 rfl fun args bs out h hc => ?_
  unfold spInsI at h
  split at h
  rotate_left
  · cases h
  rename_i b n g
  simp only [Option.some.injEq] at h
  subst h
  obtain ⟨rfl, hn, hg, _⟩ := hc
  refine ⟨by simp, by simp [Res.live], fun F hF => ?_⟩
  have hl0 := ints_length n g
  refine W.seqR hT hHT1 rfl (by (repeat' (first | assumption | exact rfl | exact trivial | omega | (dsimp only; omega) | refine ⟨?_, ?_⟩ | intro _ | (simp_all; done) | fail))) ?_
  refine W.block (W.loop (γ := { k : Nat // k ≤ n - 1 }) (fun k => iiA n (outL ltI 0 k.1 (ints n g)) (k.1 + 1)) 1 (fun k => n - k.1) ⟨0, Nat.zero_le _⟩ [(0, some 0)] ?_ ?_)
  · refine ⟨by rw [hF]; rfl, ?_, ?_, rfl, rfl, rfl⟩ <;> (repeat' (first | exact rfl | exact trivial | exact cellM.refl _ | exact fun _ _ _ _ => cellM.refl _ | exact fun _ => ⟨rfl, fun _ _ _ _ => cellM.refl _⟩ | refine ⟨?_, ?_⟩ | fail))
    exact ints_cell hg
  rintro ⟨k, hk⟩
  dsimp only at hk ⊢
  generalize hL : outL ltI 0 k (ints n g) = L
  have hLl : L.length = n := by rw [← hL, outL_length, hl0]
  refine W.seq (W.seqR hT hHT1 rfl (by (repeat' (first | assumption | exact rfl | exact trivial | omega | (dsimp only; omega) | refine ⟨?_, ?_⟩ | intro _ | (simp_all; done) | fail))) (W.cond rfl (fun h1 => W.skip ?_) (fun h1 => W.exit ?_)))
  · have h1 : k + 1 < n := by have h1 : ((k + 1 : Nat) : Int) < (n : Int) := of_decide_eq_true h1; omega
    refine W.seq (W.block ?_)
    refine W.seqR hT hHT1 rfl (by (repeat' (first | assumption | exact rfl | exact trivial | omega | (dsimp only; omega) | refine ⟨?_, ?_⟩ | intro _ | (simp_all; done) | fail))) ?_
    refine W.block (W.loop (γ := { p : Nat × List Int // p.1 ≤ k + 1 ∧ p.2.length = n ∧ innerL ltI 0 p.1 p.2 = innerL ltI 0 (k + 1) L }) (fun p => iiB n p.1.2 (k + 1) p.1.1) 1 (fun p => p.1.1) ⟨(k + 1, L), Nat.le_refl _, hLl, rfl⟩ [(0, some 0)] ?_ ?_)
    · refine ⟨by rw [hF]; rfl, ?_, ?_, rfl, rfl, rfl⟩ <;> (repeat' (first | exact rfl | exact trivial | exact cellM.refl _ | exact fun _ _ _ _ => cellM.refl _ | exact fun _ => ⟨rfl, fun _ _ _ _ => cellM.refl _⟩ | refine ⟨?_, ?_⟩ | fail))
    rintro ⟨⟨j, l⟩, hj, hll, hin⟩
    dsimp only at hj hll hin ⊢
    have hw : 0 < j → (IntKind.i64.wrap ((j : Int) - 1)).toNat = j - 1 := fun h => by rw [wi (by omega)]; omega
    have hw0 : 0 < j → 0 ≤ IntKind.i64.wrap ((j : Int) - 1) ∧ IntKind.i64.wrap ((j : Int) - 1) < (n : Int) := fun h => by rw [wi (by omega)]; omega
    have hw1 : 0 < j → (IntKind.i64.wrap ((j : Int) - 1)).toNat < n := fun h => by rw [hw h]; omega
    refine W.seq (W.seq (W.regionDraw hT hHT1 (by repeat (first | exact runIt_nil | (apply runIt_cons; exact rfl))) (by kernel_rfl) hmix (by (repeat' (first | assumption | exact rfl | exact trivial | omega | (dsimp only; omega) | refine ⟨?_, ?_⟩ | intro _ | (simp_all; done) | fail))) ?_))
    refine W.cond rfl (fun h2 => W.skip ?_) (fun h2 => W.exit ?_)
    · have h2 : j > 0 ∧ ltI (l.getD j 0) (l.getD (j - 1) 0) = true := by
        obtain ⟨g1, g2⟩ := if_eq_imp h2
        have g1 : (j : Int) > 0 := of_decide_eq_true g1
        refine ⟨by omega, ?_⟩
        rw [hw (by omega), Int.toNat_natCast] at g2
        exact g2
      obtain ⟨j', rfl⟩ : ∃ j', j = j' + 1 := ⟨j - 1, by omega⟩
      refine W.seq (W.block (W.regionDraw hT hHT1 (by repeat (first | exact runIt_nil | (apply runIt_cons; exact rfl))) (by kernel_rfl) hmix (by (repeat' (first | assumption | exact rfl | exact trivial | omega | (dsimp only; omega) | refine ⟨?_, ?_⟩ | intro _ | (simp_all; done) | fail))) ?_))
      refine W.region hT hHT1 rfl (by (repeat' (first | assumption | exact rfl | exact trivial | omega | (dsimp only; omega) | refine ⟨?_, ?_⟩ | intro _ | (simp_all; done) | fail))) ?_
      refine ⟨⟨(j', swapL 0 l (j' + 1)), by dsimp only; omega, by dsimp only; rw [swapL_length]; exact hll, ?_⟩, [(0, some 0)], ?_, ?_⟩
      · dsimp only
        rw [← hin]
        conv => rhs; rw [innerL, if_pos (show ltI (l.getD (j' + 1) 0) (l.getD j' 0) = true from h2.2)]
      · refine ⟨by rw [hF]; rfl, ?_, ?_, rfl, rfl, rfl⟩ <;> (repeat' (first | exact rfl | exact trivial | exact cellM.refl _ | exact fun _ _ _ _ => cellM.refl _ | exact fun _ => ⟨rfl, fun _ _ _ _ => cellM.refl _⟩ | refine ⟨?_, ?_⟩ | fail))
        · show Value.int .i64 (IntKind.i64.wrap (((j' + 1 : Nat) : Int) - 1)) = Value.int .i64 (j' : Int)
          rw [wi (by omega)]
          congr 1
          omega
        · intro i hi q hq
          have hw2 := hw (by omega)
          rw [hw2, Int.toNat_natCast]
          have := inG_swap (l := l) (j := j' + 1) (by omega) (by omega) i q hq
          rw [show inG (swapL 0 l (j' + 1)) i q = _ from this.symm]
          exact cellM.refl _
      · dsimp only
        omega
    · have h2 : innerL ltI 0 j l = l := by
        have g := if_eq_imp' h2
        cases j with
        | zero => rfl
        | succ j' =>
          have g := g (decide_eq_true (by omega))
          rw [hw (by omega), Int.toNat_natCast] at g
          rw [innerL, if_neg]
          rw [show ltI (l.getD (j' + 1) 0) (l.getD j' 0) = false from g]
          simp
      refine W.region hT hHT1 rfl (by (repeat' (first | assumption | exact rfl | exact trivial | omega | (dsimp only; omega) | refine ⟨?_, ?_⟩ | intro _ | (simp_all; done) | fail))) ?_
      refine ⟨⟨k + 1, by omega⟩, [(0, some 0)], ?_, ?_⟩
      · refine ⟨by rw [hF]; rfl, ?_, ?_, rfl, rfl, rfl⟩ <;> (repeat' (first | exact rfl | exact trivial | exact cellM.refl _ | exact fun _ _ _ _ => cellM.refl _ | exact fun _ => ⟨rfl, fun _ _ _ _ => cellM.refl _⟩ | refine ⟨?_, ?_⟩ | fail))
        · show Value.int .i64 (IntKind.i64.wrap (((k + 1 : Nat) : Int) + 1)) = Value.int .i64 ((k + 1 + 1 : Nat) : Int)
          rw [wi (by omega)]
          rfl
        · intro i hi q hq
          have : outL ltI 0 (k + 1) (ints n g) = l := by rw [outL, hL, ← hin, h2]
          dsimp only
          rw [this]
          exact cellM.refl _
      · dsimp only
        omega
  · have h1 : k + 1 = n ∨ n = 0 := by have h1 : ¬ ((k + 1 : Nat) : Int) < (n : Int) := of_decide_eq_false h1; omega
    have hs : sortL ltI 0 (ints n g) = L := by
      rw [sortL, hl0, ← hL]
      congr 1
      omega
    refine ⟨_, [(0, some 0)], rfl, rfl, ?_, ?_, rfl, rfl, rfl⟩ <;> (repeat' (first | exact rfl | exact trivial | exact cellM.refl _ | exact fun _ _ _ _ => cellM.refl _ | exact fun _ => ⟨rfl, fun _ _ _ _ => cellM.refl _⟩ | refine ⟨?_, ?_⟩ | fail))
    intro i hi q hq
    rw [hs]
    exact cellM.refl _

def HT2 : List (Nat × FSpec) := [(45, spInsI), (33, spLen64)]
theorem hHT2 : GOK Try.prog HT2 := GOK.cons (enters Try.func45 rfl (by kernel_rfl)) insI_holds (GOK.cons (enters Try.func33 rfl (by kernel_rfl)) len_holds hG0)
def spPdqI : FSpec
  | [.one (.own 0), .one (.c (.val (.int .i64 0))), .one (.c (.val (.int .i64 b))), .one .any], [.row 3 1 n g] => some ⟨[b = n, n ≤ 12, intsOK n g], .un, [(0, .row 3 1 n (inG (sortL ltI 0 (ints n g))))]⟩
  | _, _ => none
set_option maxRecDepth 100000 in
theorem pdqI_holds : Holds Try.prog 32 spPdqI := by
  refine Holds.of hT Try.func32 rfl 134 rfl fun args bs out h hc => ?_
  unfold spPdqI at h
  split at h
  rotate_left
  · cases h
  rename_i b n g
  simp only [Option.some.injEq] at h
  subst h
  obtain ⟨rfl, hn, hg, _⟩ := hc
  refine ⟨by simp, by simp [Res.live], fun F hF => ?_⟩
  refine W.seqR hT hHT2 rfl (by (repeat' (first | assumption | exact rfl | exact trivial | omega | (dsimp only; omega) | refine ⟨?_, ?_⟩ | intro _ | (simp_all; done) | fail))) ?_
  refine W.seqR hT hHT2 rfl (by (repeat' (first | assumption | exact rfl | exact trivial | omega | (dsimp only; omega) | refine ⟨?_, ?_⟩ | intro _ | (simp_all; done) | fail))) ?_
  refine W.block (W.loop (γ := Unit) (fun _ => ⟨[(0, .one (.own 0)), (1, iv 0), (2, iv n)], [(0, .row 3 1 n g)]⟩) 1 (fun _ => 0) () [(0, some 0)] ?_ ?_)
  · refine ⟨by rw [hF]; rfl, ?_, ?_, rfl, rfl, rfl⟩ <;> (repeat' (first | exact rfl | exact trivial | exact cellM.refl _ | exact fun _ _ _ _ => cellM.refl _ | exact fun _ => ⟨rfl, fun _ _ _ _ => cellM.refl _⟩ | refine ⟨?_, ?_⟩ | fail))
  rintro ⟨⟩
  have hw : IntKind.i64.wrap ((n : Int) - 0) = n := by rw [wi (by omega)]; omega
  refine W.block ?_
  refine W.seqR hT hHT2 rfl (by (repeat' (first | assumption | exact rfl | exact trivial | omega | (dsimp only; omega) | refine ⟨?_, ?_⟩ | intro _ | (simp_all; done) | fail))) ?_
  refine W.seq (W.seqR hT hHT2 rfl (by (repeat' (first | assumption | exact rfl | exact trivial | omega | (dsimp only; omega) | refine ⟨?_, ?_⟩ | intro _ | (simp_all; done) | fail))) (W.cond rfl (fun h1 => ?_) (fun h1 => W.skip ?_)))
  · refine W.seqR hT hHT2 rfl (by (repeat' (first | assumption | exact rfl | exact trivial | omega | (dsimp only; omega) | refine ⟨?_, ?_⟩ | intro _ | (simp_all; done) | fail))) ?_
    refine W.ret ⟨_, [(0, some 0)], rfl, rfl, ?_, ?_, rfl, rfl, rfl⟩ <;> (repeat' (first | exact rfl | exact trivial | exact cellM.refl _ | exact fun _ _ _ _ => cellM.refl _ | exact fun _ => ⟨rfl, fun _ _ _ _ => cellM.refl _⟩ | refine ⟨?_, ?_⟩ | fail))
  · have h1 : ¬ IntKind.i64.wrap ((n : Int) - 0) ≤ 12 := of_decide_eq_false h1
    omega

def HT3 : List (Nat × FSpec) := [(32, spPdqI), (33, spLen64)]
theorem hHT3 : GOK Try.prog HT3 := GOK.cons (enters Try.func32 rfl (by kernel_rfl)) pdqI_holds (GOK.cons (enters Try.func33 rfl (by kernel_rfl)) len_holds hG0)
def spSortI : FSpec
  | [.one (.own 0)], [.row 3 1 n g] => some ⟨[n ≤ 12, intsOK n g], .un, [(0, .row 3 1 n (inG (sortL ltI 0 (ints n g))))]⟩
  | _, _ => none
theorem sortI_holds : Holds Try.prog 23 spSortI := by
  refine Holds.of hT Try.func23 rfl 11 rfl fun args bs out h hc => ?_
  unfold spSortI at h
  split at h
  rotate_left
  · cases h
  rename_i n g
  simp only [Option.some.injEq] at h
  subst h
  obtain ⟨hn, hg, _⟩ := hc
  refine ⟨by simp, by simp [Res.live], fun F hF => ?_⟩
  have hw : IntKind.u64.wrap (n : Int) = n := IntWalk.u64_in _ (by omega)
  have hw1 : 0 ≤ IntKind.u64.wrap (n : Int) := by omega
  have hw2 : IntKind.u64.wrap (n : Int) < 256 := by omega
  refine W.seqR hT hHT3 rfl (by (repeat' (first | assumption | exact rfl | exact trivial | omega | (dsimp only; omega) | refine ⟨?_, ?_⟩ | intro _ | (simp_all; done) | fail))) ?_
  refine W.region hT hHT3 rfl ⟨hw1, hw2, rfl, hn, hg, trivial⟩ ?_
  refine ⟨_, [(0, some 0)], rfl, rfl, ?_, ?_, rfl, rfl, rfl⟩ <;> (repeat' (first | exact rfl | exact trivial | exact cellM.refl _ | exact fun _ _ _ _ => cellM.refl _ | exact fun _ => ⟨rfl, fun _ _ _ _ => cellM.refl _⟩ | refine ⟨?_, ?_⟩ | fail))
end Go.Proofs.Ytahhejlpmacloaa
