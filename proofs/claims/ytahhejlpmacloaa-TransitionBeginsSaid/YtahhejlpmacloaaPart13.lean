/- The walks of comparisons of links and routers, of searches with a function. -/
import Derived.Test.YtahhejlpmacloaaPart12
namespace Go.Proofs.Ytahhejlpmacloaa
open Go Go.Eng

/-! ### the first number that is not 0 -/
def orV : List Int → Int
  | [] => 0
  | x :: l => if x = 0 then orV l else x
theorem orV_zero {l : List Int} : ∀ {k : Nat}, (∀ j, j < k → l.getD j 0 = 0) → orV l = orV (l.drop k) := by
  induction l with
  | nil => intro k _; simp
  | cons x l ih =>
    intro k h
    cases k with
    | zero => rfl
    | succ k =>
      have h0 : x = 0 := by simpa using h 0 (by omega)
      simp only [orV, h0, if_true, List.drop_succ_cons]
      exact ih (fun j hj => by simpa using h (j + 1) (by omega))

def oI' (n : Nat) (l : List Int) (k : Nat) : St := ⟨[(3, iv 0), (6, .one (.c (.sl n 1 (inG l)))), (7, iv n), (8, iv k)], []⟩
def spOr : FSpec
  | [.one (.c (.sl n 1 g))], [] => some ⟨[n ≤ 9223372036854775806, intsOK n g], iv (orV (ints n g)), []⟩
  | _, _ => none
theorem or_holds : Holds Try.prog 57 spOr := by
  refine Holds.of hT Try.func57 rfl 18 rfl fun args bs out h hc => ?_
  unfold spOr at h
  split at h
  rotate_left
  · cases h
  rename_i n g
  simp only [Option.some.injEq] at h
  subst h
  obtain ⟨hn, hg, _⟩ := hc
  refine ⟨by simp, by simp [Res.live], fun F hF => ?_⟩
  refine W.seqR hT hG0 rfl (by (repeat' (first | assumption | exact rfl | exact trivial | omega | (dsimp only; omega) | refine ⟨?_, ?_⟩ | intro _ | (simp_all; done) | fail))) ?_
  refine W.seqR hT hG0 rfl (by (repeat' (first | assumption | exact rfl | exact trivial | omega | (dsimp only; omega) | refine ⟨?_, ?_⟩ | intro _ | (simp_all; done) | fail))) ?_
  refine W.seq (W.seqR hT hG0 rfl trivial ?_)
  have hll := ints_length n g
  refine W.block (W.loop (γ := { k : Nat // k ≤ n ∧ ∀ j, j < k → (ints n g).getD j 0 = 0 }) (fun k => oI' n (ints n g) k.1) 0 (fun k => n - k.1) ⟨0, Nat.zero_le _, fun j hj => by omega⟩ [] ?_ ?_)
  · refine ⟨by rw [hF]; rfl, ?_, ?_, rfl, rfl, rfl⟩ <;> (repeat' (first | exact rfl | exact trivial | exact cellM.refl _ | exact fun _ _ _ _ => cellM.refl _ | exact fun _ => ⟨rfl, fun _ _ _ _ => cellM.refl _⟩ | refine ⟨?_, ?_⟩ | fail))
    exact ints_cell hg
  rintro ⟨k, hk, hkl⟩
  refine W.seqR hT hG0 rfl (by (repeat' (first | assumption | exact rfl | exact trivial | omega | (dsimp only; omega) | refine ⟨?_, ?_⟩ | intro _ | (simp_all; done) | fail))) (W.seq (W.cond rfl (fun h1 => W.skip ?_) (fun h1 => W.exit ?_)))
  · have h1 : k < n := by have h1 : (k : Int) < (n : Int) := of_decide_eq_true h1; omega
    refine W.seq (W.block ?_)
    refine W.seqR hT hG0 rfl (by (repeat' (first | assumption | exact rfl | exact trivial | omega | (dsimp only; omega) | refine ⟨?_, ?_⟩ | intro _ | (simp_all; done) | fail))) ?_
    refine W.seqR hT hG0 rfl (by (repeat' (first | assumption | exact rfl | exact trivial | omega | (dsimp only; omega) | refine ⟨?_, ?_⟩ | intro _ | (simp_all; done) | fail))) (W.cond rfl (fun h2 => ?_) (fun h2 => ?_))
    · have h2 : (ints n g).getD k 0 ≠ 0 := by simpa using h2
      refine W.seqR hT hG0 rfl (by (repeat' (first | assumption | exact rfl | exact trivial | omega | (dsimp only; omega) | refine ⟨?_, ?_⟩ | intro _ | (simp_all; done) | fail))) ?_
      refine W.ret ⟨_, [], rfl, rfl, ?_, ?_, rfl, rfl, rfl⟩ <;> (repeat' (first | exact rfl | exact trivial | exact cellM.refl _ | exact fun _ _ _ _ => cellM.refl _ | exact fun _ => ⟨rfl, fun _ _ _ _ => cellM.refl _⟩ | refine ⟨?_, ?_⟩ | fail))
      show Value.int .i64 ((ints n g).getD k 0) = Value.int .i64 (orV (ints n g))
      rw [orV_zero hkl, List.drop_eq_getElem_cons (by omega)]
      have : (ints n g)[k] = (ints n g).getD k 0 := by simp [show k < (ints n g).length from by omega]
      simp only [orV]
      rw [if_neg (by rw [this]; exact h2), this]
    · have h2 : (ints n g).getD k 0 = 0 := by simpa using h2
      refine W.skip ?_
      refine W.region hT hG0 rfl (by (repeat' (first | assumption | exact rfl | exact trivial | omega | (dsimp only; omega) | refine ⟨?_, ?_⟩ | intro _ | (simp_all; done) | fail))) ?_
      refine ⟨⟨k + 1, by omega, fun j hj => ?_⟩, [], ?_, ?_⟩
      · rcases Nat.lt_or_ge j k with h | h
        · exact hkl j h
        · obtain rfl : j = k := by omega
          exact h2
      · refine ⟨by rw [hF]; rfl, ?_, ?_, rfl, rfl, rfl⟩ <;> (repeat' (first | exact rfl | exact trivial | exact cellM.refl _ | exact fun _ _ _ _ => cellM.refl _ | exact fun _ => ⟨rfl, fun _ _ _ _ => cellM.refl _⟩ | refine ⟨?_, ?_⟩ | fail))
        show Value.int .i64 (IntKind.i64.wrap ((k : Int) + 1)) = Value.int .i64 ((k + 1 : Nat) : Int)
        rw [wi (by omega)]
        rfl
      · show n - (k + 1) < n - k
        omega
  · have h1 : k = n := by have h1 : ¬ (k : Int) < (n : Int) := of_decide_eq_false h1; omega
    refine W.seqR hT hG0 rfl (by (repeat' (first | assumption | exact rfl | exact trivial | omega | (dsimp only; omega) | refine ⟨?_, ?_⟩ | intro _ | (simp_all; done) | fail))) ?_
    refine W.ret ⟨_, [], rfl, rfl, ?_, ?_, rfl, rfl, rfl⟩ <;> (repeat' (first | exact rfl | exact trivial | exact cellM.refl _ | exact fun _ _ _ _ => cellM.refl _ | exact fun _ => ⟨rfl, fun _ _ _ _ => cellM.refl _⟩ | refine ⟨?_, ?_⟩ | fail))
    show Value.int .i64 0 = Value.int .i64 (orV (ints n g))
    rw [orV_zero hkl, List.drop_eq_nil_of_le (by omega)]
    rfl

/-! ### links and routers compared -/
def cmpL (a b a' b' : Int) : Int := orV [cmpV a a', cmpV b b']
def H3 : List (Nat × FSpec) := [(58, spCompare), (57, spOr), (39, spIn)]
theorem hH3 : GOK Try.prog H3 := GOK.cons (enters Try.func58 rfl (by kernel_rfl)) compare_holds (GOK.cons (enters Try.func57 rfl (by kernel_rfl)) or_holds (GOK.cons (enters Try.func39 rfl (by kernel_rfl)) in_holds hG0))

def spCmpL : FSpec
  | [.agg [.c (.val (.int .i64 a)), .c (.val (.int .i64 b)), .c c2, .c c3, .c c4], .agg [.c (.val (.int .i64 a')), .c (.val (.int .i64 b')), .c c2', .c c3', .c c4']], [] => some ⟨[], iv (cmpL a b a' b'), []⟩
  | _, _ => none
theorem cmpL_holds : Holds Try.prog 37 spCmpL := by
  refine Holds.of hT Try.func37 rfl 17 rfl fun args bs out h hc => ?_
  unfold spCmpL at h
  split at h
  rotate_left
  · cases h
  rename_i a b c2 c3 c4 a' b' c2' c3' c4'
  simp only [Option.some.injEq] at h
  subst h
  refine ⟨by simp, by simp [Res.live], fun F hF => ?_⟩
  refine W.seqR hT hH3 rfl (by (repeat' (first | assumption | exact rfl | exact trivial | omega | (dsimp only; omega) | refine ⟨?_, ?_⟩ | intro _ | (simp_all; done) | fail))) ?_
  have hz : intsOK 2 (cellAt [.val (.int .i64 (cmpV a a')), .val (.int .i64 (cmpV b b'))] 1) := fun i hi => by match i, hi with | 0, _ => rfl | 1, _ => rfl
  refine W.seq (W.regionDraw hT hH3 (by repeat (first | exact runIt_nil | (apply runIt_cons; exact rfl))) (by kernel_rfl) hmix (by (repeat' (first | assumption | exact rfl | exact trivial | omega | (dsimp only; omega) | refine ⟨?_, ?_⟩ | intro _ | (simp_all; done) | fail))) ?_)
  refine W.ret ⟨_, [], rfl, rfl, ?_, ?_, rfl, rfl, rfl⟩ <;> (repeat' (first | exact rfl | exact trivial | exact cellM.refl _ | exact fun _ _ _ _ => cellM.refl _ | exact fun _ => ⟨rfl, fun _ _ _ _ => cellM.refl _⟩ | refine ⟨?_, ?_⟩ | fail))

def spByID : FSpec
  | [.agg [.c (.val (.int .i64 a)), .c c1], .one (.c (.val (.int .i64 x)))], [] => some ⟨[], iv (cmpV a x), []⟩
  | _, _ => none
theorem byID_holds : Holds Try.prog 75 spByID := by
  refine Holds.of hT Try.func75 rfl 9 rfl fun args bs out h hc => ?_
  unfold spByID at h
  split at h
  rotate_left
  · cases h
  rename_i a c1 x
  simp only [Option.some.injEq] at h
  subst h
  refine ⟨by simp, by simp [Res.live], fun F hF => ?_⟩
  refine W.seqR hT hH3 rfl (by (repeat' (first | assumption | exact rfl | exact trivial | omega | (dsimp only; omega) | refine ⟨?_, ?_⟩ | intro _ | (simp_all; done) | fail))) ?_
  refine W.seqR hT hH3 rfl (by (repeat' (first | assumption | exact rfl | exact trivial | omega | (dsimp only; omega) | refine ⟨?_, ?_⟩ | intro _ | (simp_all; done) | fail))) ?_
  refine W.ret ⟨_, [], rfl, rfl, ?_, ?_, rfl, rfl, rfl⟩ <;> (repeat' (first | exact rfl | exact trivial | exact cellM.refl _ | exact fun _ _ _ _ => cellM.refl _ | exact fun _ => ⟨rfl, fun _ _ _ _ => cellM.refl _⟩ | refine ⟨?_, ?_⟩ | fail))

/-! ### the tests that Check asks of a router and of a link -/
def badR (a : Int) : Bool := !decide (1 ≤ a ∧ a ≤ 99)
def spBadR : FSpec
  | [.agg [.c (.val (.int .i64 a)), .c c1]], [] => some ⟨[], bv' (badR a), []⟩
  | _, _ => none
theorem badR_holds : Holds Try.prog 72 spBadR := by
  refine Holds.of hT Try.func72 rfl 7 rfl fun args bs out h hc => ?_
  unfold spBadR at h
  split at h
  rotate_left
  · cases h
  rename_i a c1
  simp only [Option.some.injEq] at h
  subst h
  refine ⟨by simp, by simp [Res.live], fun F hF => ?_⟩
  refine W.seqR hT hH3 rfl (by (repeat' (first | assumption | exact rfl | exact trivial | omega | (dsimp only; omega) | refine ⟨?_, ?_⟩ | intro _ | (simp_all; done) | fail))) ?_
  refine W.seqR hT hH3 rfl (by (repeat' (first | assumption | exact rfl | exact trivial | omega | (dsimp only; omega) | refine ⟨?_, ?_⟩ | intro _ | (simp_all; done) | fail))) ?_
  refine W.ret ⟨_, [], rfl, rfl, ?_, ?_, rfl, rfl, rfl⟩ <;> (repeat' (first | exact rfl | exact trivial | exact cellM.refl _ | exact fun _ _ _ _ => cellM.refl _ | exact fun _ => ⟨rfl, fun _ _ _ _ => cellM.refl _⟩ | refine ⟨?_, ?_⟩ | fail))

def badC (x y z : Int) : Bool := !decide (1 ≤ x ∧ x ≤ 1000) || !decide (1 ≤ y ∧ y ≤ 1000) || !decide (0 ≤ z ∧ z ≤ 1000)
def spBadC : FSpec
  | [.agg [.c c0, .c c1, .c (.val (.int .i64 x)), .c (.val (.int .i64 y)), .c (.val (.int .i64 z))]], [] => some ⟨[], bv' (badC x y z), []⟩
  | _, _ => none
theorem badC_holds : Holds Try.prog 77 spBadC := by
  refine Holds.of hT Try.func77 rfl 19 rfl fun args bs out h hc => ?_
  unfold spBadC at h
  split at h
  rotate_left
  · cases h
  rename_i c0 c1 x y z
  simp only [Option.some.injEq] at h
  subst h
  refine ⟨by simp, by simp [Res.live], fun F hF => ?_⟩
  refine W.seqR hT hH3 rfl (by (repeat' (first | assumption | exact rfl | exact trivial | omega | (dsimp only; omega) | refine ⟨?_, ?_⟩ | intro _ | (simp_all; done) | fail))) ?_
  refine W.seqR hT hH3 rfl (by (repeat' (first | assumption | exact rfl | exact trivial | omega | (dsimp only; omega) | refine ⟨?_, ?_⟩ | intro _ | (simp_all; done) | fail))) ?_
  refine W.ret ⟨_, [], rfl, rfl, ?_, ?_, rfl, rfl, rfl⟩ <;> (repeat' (first | exact rfl | exact trivial | exact cellM.refl _ | exact fun _ _ _ _ => cellM.refl _ | exact fun _ => ⟨rfl, fun _ _ _ _ => cellM.refl _⟩ | refine ⟨?_, ?_⟩ | fail))
  show Value.bool _ = Value.bool (badC x y z)
  unfold badC
  cases decide (1 ≤ x ∧ x ≤ 1000) <;> cases decide (1 ≤ y ∧ y ≤ 1000) <;> cases decide (0 ≤ z ∧ z ≤ 1000) <;> rfl

def spBadO : FSpec
  | [.agg [.c (.val (.int .i64 a)), .c (.val (.int .i64 b)), .c c2, .c c3, .c c4]], [] => some ⟨[], bv' (decide (a ≥ b)), []⟩
  | _, _ => none
theorem badO_holds : Holds Try.prog 79 spBadO := by
  refine Holds.of hT Try.func79 rfl 8 rfl fun args bs out h hc => ?_
  unfold spBadO at h
  split at h
  rotate_left
  · cases h
  rename_i a b c2 c3 c4
  simp only [Option.some.injEq] at h
  subst h
  refine ⟨by simp, by simp [Res.live], fun F hF => ?_⟩
  refine W.seqR hT hG0 rfl (by (repeat' (first | assumption | exact rfl | exact trivial | omega | (dsimp only; omega) | refine ⟨?_, ?_⟩ | intro _ | (simp_all; done) | fail))) ?_
  refine W.seqR hT hG0 rfl (by (repeat' (first | assumption | exact rfl | exact trivial | omega | (dsimp only; omega) | refine ⟨?_, ?_⟩ | intro _ | (simp_all; done) | fail))) ?_
  refine W.ret ⟨_, [], rfl, rfl, ?_, ?_, rfl, rfl, rfl⟩ <;> (repeat' (first | exact rfl | exact trivial | exact cellM.refl _ | exact fun _ _ _ _ => cellM.refl _ | exact fun _ => ⟨rfl, fun _ _ _ _ => cellM.refl _⟩ | refine ⟨?_, ?_⟩ | fail))

/-! ### the first place at which something holds -/
def idxP (p : Nat → Bool) (n : Nat) : Int := match (List.range n).find? p with
  | some i => i
  | none => -1
def anyP (p : Nat → Bool) (n : Nat) : Bool := (List.range n).any p
theorem idxP_stop {p : Nat → Bool} {n k : Nat} (hk : k < n) (hp : p k = true) (hl : ∀ j, j < k → p j = false) : idxP p n = k := by
  have : (List.range n).find? p = some k := by
    rw [List.find?_range_eq_some]
    exact ⟨hp, by simpa using hk, fun j hj => by simp [hl j hj]⟩
  rw [idxP, this]
theorem idxP_none {p : Nat → Bool} {n : Nat} (hl : ∀ j, j < n → p j = false) : idxP p n = -1 := by
  have : (List.range n).find? p = none := by
    rw [List.find?_eq_none]
    intro x hx
    simp [hl x (List.mem_range.1 hx)]
  rw [idxP, this]
theorem idxP_any (p : Nat → Bool) (n : Nat) : decide (idxP p n ≥ 0) = anyP p n := by
  unfold idxP anyP
  cases h : (List.range n).find? p with
  | some i =>
    have := List.find?_some h
    have hm := List.mem_of_find?_eq_some h
    rw [List.any_eq_true.2 ⟨i, hm, this⟩]
    simp
  | none =>
    have : (List.range n).any p = false := by
      rw [List.any_eq_false]
      exact fun x hx => List.find?_eq_none.1 h x hx
    rw [this]
    rfl

/-- Routers, each its number and whether it is capable. -/
def rts (n : Nat) (g : Get) : List (Int × Bool) := (List.range n).map fun i => (cellI (g i 0), match g i 1 with | .val (.bool b) => b | _ => false)
def rtAt (l : List (Int × Bool)) (i : Nat) : Int × Bool := l.getD i (0, false)
def rtL (l : List (Int × Bool)) (i j : Nat) : Cell := match j with
  | 0 => .val (.int .i64 (rtAt l i).1)
  | _ => .val (.bool (rtAt l i).2)
def rtOK (n : Nat) (g : Get) : Prop := ∀ i, i < n → isI (g i 0) ∧ ∃ b, g i 1 = .val (.bool b)
def lkOK (n : Nat) (g : Get) : Prop := ∀ i, i < n → ∀ j, j < 5 → isI (g i j)
theorem rts_length (n : Nat) (g : Get) : (rts n g).length = n := by simp [rts]
theorem rts_cell {n : Nat} {g : Get} (hg : rtOK n g) : ∀ i, i < n → ∀ j, j < 2 → cellM (g i j) (rtL (rts n g) i j) := by
  intro i hi j hj
  obtain ⟨h1, b, h2⟩ := hg i hi
  have e : rtL (rts n g) i j = g i j := by
    match j, hj with
    | 0, _ => simp [rtL, rtAt, rts, hi]; exact h1.symm
    | 1, _ => simp [rtL, rtAt, rts, hi, h2]
  rw [e]
  exact cellM.refl _
theorem rtL_ok (l : List (Int × Bool)) (n : Nat) : rtOK n (rtL l) := fun _ _ => ⟨rfl, _, rfl⟩
theorem lkG_ok (l : List Lk) (n : Nat) : lkOK n (lkG l) := fun _ _ _ _ => rfl
theorem rts_rtL (l : List (Int × Bool)) : rts l.length (rtL l) = l := by
  apply List.ext_getElem
  · simp [rts]
  · intro i h1 h2
    simp [rts, rtL, rtAt, cellI, h2]
theorem lks_lkG' (L : List Lk) : lks L.length (lkG L) = L := by
  apply List.ext_getElem
  · simp [lks]
  · intro i h1 h2
    simp [lks, lkG, cellI, Lk.fld, lkAt, h2]

def HP : List (Nat × FSpec) := [(72, spBadR), (77, spBadC), (79, spBadO)]
theorem hHP : GOK Try.prog HP := GOK.cons (enters Try.func72 rfl (by kernel_rfl)) badR_holds (GOK.cons (enters Try.func77 rfl (by kernel_rfl)) badC_holds (GOK.cons (enters Try.func79 rfl (by kernel_rfl)) badO_holds hG0))

/-! ### IndexFunc and ContainsFunc with the function 72 -/
def iF72 (n : Nat) (l : List (Int × Bool)) (k : Nat) : St := ⟨[(1, .one (.clo 72 [])), (0, .one (.c (.sl n 2 (rtL l)))), (6, .one (.c (.sl n 2 (rtL l)))), (7, iv n), (8, iv k)], []⟩
def spIx72 : FSpec
  | [.one (.c (.sl n 2 g)), .one (.clo 72 [])], [] => some ⟨[n ≤ 9223372036854775806, rtOK n g], iv (idxP (fun i => badR (rtAt (rts n g) i).1) n), []⟩
  | _, _ => none
theorem ix72_holds : Holds Try.prog 84 spIx72 := by
  refine Holds.of hT Try.func84 rfl 19 rfl fun args bs out h hc => ?_
  unfold spIx72 at h
  split at h
  rotate_left
  · cases h
  rename_i n g
  simp only [Option.some.injEq] at h
  subst h
  obtain ⟨hn, hg, _⟩ := hc
  refine ⟨by simp, by simp [Res.live], fun F hF => ?_⟩
  refine W.seqR hT hHP rfl (by (repeat' (first | assumption | exact rfl | exact trivial | omega | (dsimp only; omega) | refine ⟨?_, ?_⟩ | intro _ | (simp_all; done) | fail))) ?_
  refine W.seq (W.seqR hT hHP rfl trivial ?_)
  refine W.block (W.loop (γ := { k : Nat // k ≤ n ∧ ∀ j, j < k → (fun i => badR (rtAt (rts n g) i).1) j = false }) (fun k => iF72 n (rts n g) k.1) 0 (fun k => n - k.1) ⟨0, Nat.zero_le _, fun j hj => by omega⟩ [] ?_ ?_)
  · refine ⟨by rw [hF]; rfl, ?_, ?_, rfl, rfl, rfl⟩ <;> (repeat' (first | exact rfl | exact trivial | exact cellM.refl _ | exact fun _ _ _ _ => cellM.refl _ | exact fun _ => ⟨rfl, fun _ _ _ _ => cellM.refl _⟩ | refine ⟨?_, ?_⟩ | fail))
    · exact rts_cell hg
    · exact rts_cell hg
  rintro ⟨k, hk, hkl⟩
  refine W.seqR hT hHP rfl (by (repeat' (first | assumption | exact rfl | exact trivial | omega | (dsimp only; omega) | refine ⟨?_, ?_⟩ | intro _ | (simp_all; done) | fail))) (W.seq (W.cond rfl (fun h1 => W.skip ?_) (fun h1 => W.exit ?_)))
  · have h1 : k < n := by have h1 : (k : Int) < (n : Int) := of_decide_eq_true h1; omega
    refine W.seq (W.block ?_)
    refine W.seqR hT hHP rfl (by (repeat' (first | assumption | exact rfl | exact trivial | omega | (dsimp only; omega) | refine ⟨?_, ?_⟩ | intro _ | (simp_all; done) | fail))) ?_
    refine W.seqR hT hHP rfl (by (repeat' (first | assumption | exact rfl | exact trivial | omega | (dsimp only; omega) | refine ⟨?_, ?_⟩ | intro _ | (simp_all; done) | fail))) (W.cond rfl (fun h2 => ?_) (fun h2 => ?_))
    · refine W.seqR hT hHP rfl (by (repeat' (first | assumption | exact rfl | exact trivial | omega | (dsimp only; omega) | refine ⟨?_, ?_⟩ | intro _ | (simp_all; done) | fail))) ?_
      refine W.ret ⟨_, [], rfl, rfl, ?_, ?_, rfl, rfl, rfl⟩ <;> (repeat' (first | exact rfl | exact trivial | exact cellM.refl _ | exact fun _ _ _ _ => cellM.refl _ | exact fun _ => ⟨rfl, fun _ _ _ _ => cellM.refl _⟩ | refine ⟨?_, ?_⟩ | fail))
      show Value.int .i64 (k : Int) = Value.int .i64 (idxP (fun i => badR (rtAt (rts n g) i).1) n)
      rw [idxP_stop h1 h2 hkl]
    · refine W.skip ?_
      refine W.region hT hHP rfl (by (repeat' (first | assumption | exact rfl | exact trivial | omega | (dsimp only; omega) | refine ⟨?_, ?_⟩ | intro _ | (simp_all; done) | fail))) ?_
      refine ⟨⟨k + 1, by omega, fun j hj => ?_⟩, [], ?_, ?_⟩
      · rcases Nat.lt_or_ge j k with h | h
        · exact hkl j h
        · obtain rfl : j = k := by omega
          exact h2
      · refine ⟨by rw [hF]; rfl, ?_, ?_, rfl, rfl, rfl⟩ <;> (repeat' (first | exact rfl | exact trivial | exact cellM.refl _ | exact fun _ _ _ _ => cellM.refl _ | exact fun _ => ⟨rfl, fun _ _ _ _ => cellM.refl _⟩ | refine ⟨?_, ?_⟩ | fail))
        show Value.int .i64 (IntKind.i64.wrap ((k : Int) + 1)) = Value.int .i64 ((k + 1 : Nat) : Int)
        rw [wi (by omega)]
        rfl
      · show n - (k + 1) < n - k
        omega
  · have h1 : k = n := by have h1 : ¬ (k : Int) < (n : Int) := of_decide_eq_false h1; omega
    refine W.seqR hT hHP rfl (by (repeat' (first | assumption | exact rfl | exact trivial | omega | (dsimp only; omega) | refine ⟨?_, ?_⟩ | intro _ | (simp_all; done) | fail))) ?_
    refine W.ret ⟨_, [], rfl, rfl, ?_, ?_, rfl, rfl, rfl⟩ <;> (repeat' (first | exact rfl | exact trivial | exact cellM.refl _ | exact fun _ _ _ _ => cellM.refl _ | exact fun _ => ⟨rfl, fun _ _ _ _ => cellM.refl _⟩ | refine ⟨?_, ?_⟩ | fail))
    show Value.int .i64 (-1) = Value.int .i64 (idxP (fun i => badR (rtAt (rts n g) i).1) n)
    rw [idxP_none (fun j hj => hkl j (by omega))]

def HC72 : List (Nat × FSpec) := [(84, spIx72)]
theorem hHC72 : GOK Try.prog HC72 := GOK.cons (enters Try.func84 rfl (by kernel_rfl)) ix72_holds hG0
def spCF72 : FSpec
  | [.one (.c (.sl n 2 g)), .one (.clo 72 [])], [] => some ⟨[n ≤ 9223372036854775806, rtOK n g], bv' (anyP (fun i => badR (rtAt (rts n g) i).1) n), []⟩
  | _, _ => none
theorem cf72_holds : Holds Try.prog 71 spCF72 := by
  refine Holds.of hT Try.func71 rfl 9 rfl fun args bs out h hc => ?_
  unfold spCF72 at h
  split at h
  rotate_left
  · cases h
  rename_i n g
  simp only [Option.some.injEq] at h
  subst h
  obtain ⟨hn, hg, _⟩ := hc
  refine ⟨by simp, by simp [Res.live], fun F hF => ?_⟩
  refine W.seqR hT hHC72 rfl (by (repeat' (first | assumption | exact rfl | exact trivial | omega | (dsimp only; omega) | refine ⟨?_, ?_⟩ | intro _ | (simp_all; done) | fail))) ?_
  refine W.seqR hT hHC72 rfl (by (repeat' (first | assumption | exact rfl | exact trivial | omega | (dsimp only; omega) | refine ⟨?_, ?_⟩ | intro _ | (simp_all; done) | fail))) ?_
  refine W.ret ⟨_, [], rfl, rfl, ?_, ?_, rfl, rfl, rfl⟩ <;> (repeat' (first | exact rfl | exact trivial | exact cellM.refl _ | exact fun _ _ _ _ => cellM.refl _ | exact fun _ => ⟨rfl, fun _ _ _ _ => cellM.refl _⟩ | refine ⟨?_, ?_⟩ | fail))
  show Value.bool (decide (idxP (fun i => badR (rtAt (rts n g) i).1) n ≥ 0)) = Value.bool (anyP (fun i => badR (rtAt (rts n g) i).1) n)
  rw [idxP_any]

/-! ### IndexFunc and ContainsFunc with the function 77 -/
def iF77 (n : Nat) (l : List Lk) (k : Nat) : St := ⟨[(1, .one (.clo 77 [])), (0, .one (.c (.sl n 5 (lkG l)))), (6, .one (.c (.sl n 5 (lkG l)))), (7, iv n), (8, iv k)], []⟩
def spIx77 : FSpec
  | [.one (.c (.sl n 5 g)), .one (.clo 77 [])], [] => some ⟨[n ≤ 9223372036854775806, lkOK n g], iv (idxP (fun i => badC (lkAt (lks n g) i).ca (lkAt (lks n g) i).cb (lkAt (lks n g) i).cap) n), []⟩
  | _, _ => none
theorem ix77_holds : Holds Try.prog 85 spIx77 := by
  refine Holds.of hT Try.func85 rfl 19 rfl fun args bs out h hc => ?_
  unfold spIx77 at h
  split at h
  rotate_left
  · cases h
  rename_i n g
  simp only [Option.some.injEq] at h
  subst h
  obtain ⟨hn, hg, _⟩ := hc
  refine ⟨by simp, by simp [Res.live], fun F hF => ?_⟩
  refine W.seqR hT hHP rfl (by (repeat' (first | assumption | exact rfl | exact trivial | omega | (dsimp only; omega) | refine ⟨?_, ?_⟩ | intro _ | (simp_all; done) | fail))) ?_
  refine W.seq (W.seqR hT hHP rfl trivial ?_)
  refine W.block (W.loop (γ := { k : Nat // k ≤ n ∧ ∀ j, j < k → (fun i => badC (lkAt (lks n g) i).ca (lkAt (lks n g) i).cb (lkAt (lks n g) i).cap) j = false }) (fun k => iF77 n (lks n g) k.1) 0 (fun k => n - k.1) ⟨0, Nat.zero_le _, fun j hj => by omega⟩ [] ?_ ?_)
  · refine ⟨by rw [hF]; rfl, ?_, ?_, rfl, rfl, rfl⟩ <;> (repeat' (first | exact rfl | exact trivial | exact cellM.refl _ | exact fun _ _ _ _ => cellM.refl _ | exact fun _ => ⟨rfl, fun _ _ _ _ => cellM.refl _⟩ | refine ⟨?_, ?_⟩ | fail))
    · exact lks_cell hg
    · exact lks_cell hg
  rintro ⟨k, hk, hkl⟩
  refine W.seqR hT hHP rfl (by (repeat' (first | assumption | exact rfl | exact trivial | omega | (dsimp only; omega) | refine ⟨?_, ?_⟩ | intro _ | (simp_all; done) | fail))) (W.seq (W.cond rfl (fun h1 => W.skip ?_) (fun h1 => W.exit ?_)))
  · have h1 : k < n := by have h1 : (k : Int) < (n : Int) := of_decide_eq_true h1; omega
    refine W.seq (W.block ?_)
    refine W.seqR hT hHP rfl (by (repeat' (first | assumption | exact rfl | exact trivial | omega | (dsimp only; omega) | refine ⟨?_, ?_⟩ | intro _ | (simp_all; done) | fail))) ?_
    refine W.seqR hT hHP rfl (by (repeat' (first | assumption | exact rfl | exact trivial | omega | (dsimp only; omega) | refine ⟨?_, ?_⟩ | intro _ | (simp_all; done) | fail))) (W.cond rfl (fun h2 => ?_) (fun h2 => ?_))
    · refine W.seqR hT hHP rfl (by (repeat' (first | assumption | exact rfl | exact trivial | omega | (dsimp only; omega) | refine ⟨?_, ?_⟩ | intro _ | (simp_all; done) | fail))) ?_
      refine W.ret ⟨_, [], rfl, rfl, ?_, ?_, rfl, rfl, rfl⟩ <;> (repeat' (first | exact rfl | exact trivial | exact cellM.refl _ | exact fun _ _ _ _ => cellM.refl _ | exact fun _ => ⟨rfl, fun _ _ _ _ => cellM.refl _⟩ | refine ⟨?_, ?_⟩ | fail))
      show Value.int .i64 (k : Int) = Value.int .i64 (idxP (fun i => badC (lkAt (lks n g) i).ca (lkAt (lks n g) i).cb (lkAt (lks n g) i).cap) n)
      rw [idxP_stop h1 h2 hkl]
    · refine W.skip ?_
      refine W.region hT hHP rfl (by (repeat' (first | assumption | exact rfl | exact trivial | omega | (dsimp only; omega) | refine ⟨?_, ?_⟩ | intro _ | (simp_all; done) | fail))) ?_
      refine ⟨⟨k + 1, by omega, fun j hj => ?_⟩, [], ?_, ?_⟩
      · rcases Nat.lt_or_ge j k with h | h
        · exact hkl j h
        · obtain rfl : j = k := by omega
          exact h2
      · refine ⟨by rw [hF]; rfl, ?_, ?_, rfl, rfl, rfl⟩ <;> (repeat' (first | exact rfl | exact trivial | exact cellM.refl _ | exact fun _ _ _ _ => cellM.refl _ | exact fun _ => ⟨rfl, fun _ _ _ _ => cellM.refl _⟩ | refine ⟨?_, ?_⟩ | fail))
        show Value.int .i64 (IntKind.i64.wrap ((k : Int) + 1)) = Value.int .i64 ((k + 1 : Nat) : Int)
        rw [wi (by omega)]
        rfl
      · show n - (k + 1) < n - k
        omega
  · have h1 : k = n := by have h1 : ¬ (k : Int) < (n : Int) := of_decide_eq_false h1; omega
    refine W.seqR hT hHP rfl (by (repeat' (first | assumption | exact rfl | exact trivial | omega | (dsimp only; omega) | refine ⟨?_, ?_⟩ | intro _ | (simp_all; done) | fail))) ?_
    refine W.ret ⟨_, [], rfl, rfl, ?_, ?_, rfl, rfl, rfl⟩ <;> (repeat' (first | exact rfl | exact trivial | exact cellM.refl _ | exact fun _ _ _ _ => cellM.refl _ | exact fun _ => ⟨rfl, fun _ _ _ _ => cellM.refl _⟩ | refine ⟨?_, ?_⟩ | fail))
    show Value.int .i64 (-1) = Value.int .i64 (idxP (fun i => badC (lkAt (lks n g) i).ca (lkAt (lks n g) i).cb (lkAt (lks n g) i).cap) n)
    rw [idxP_none (fun j hj => hkl j (by omega))]

def HC77 : List (Nat × FSpec) := [(85, spIx77)]
theorem hHC77 : GOK Try.prog HC77 := GOK.cons (enters Try.func85 rfl (by kernel_rfl)) ix77_holds hG0
def spCF77 : FSpec
  | [.one (.c (.sl n 5 g)), .one (.clo 77 [])], [] => some ⟨[n ≤ 9223372036854775806, lkOK n g], bv' (anyP (fun i => badC (lkAt (lks n g) i).ca (lkAt (lks n g) i).cb (lkAt (lks n g) i).cap) n), []⟩
  | _, _ => none
theorem cf77_holds : Holds Try.prog 76 spCF77 := by
  refine Holds.of hT Try.func76 rfl 9 rfl fun args bs out h hc => ?_
  unfold spCF77 at h
  split at h
  rotate_left
  · cases h
  rename_i n g
  simp only [Option.some.injEq] at h
  subst h
  obtain ⟨hn, hg, _⟩ := hc
  refine ⟨by simp, by simp [Res.live], fun F hF => ?_⟩
  refine W.seqR hT hHC77 rfl (by (repeat' (first | assumption | exact rfl | exact trivial | omega | (dsimp only; omega) | refine ⟨?_, ?_⟩ | intro _ | (simp_all; done) | fail))) ?_
  refine W.seqR hT hHC77 rfl (by (repeat' (first | assumption | exact rfl | exact trivial | omega | (dsimp only; omega) | refine ⟨?_, ?_⟩ | intro _ | (simp_all; done) | fail))) ?_
  refine W.ret ⟨_, [], rfl, rfl, ?_, ?_, rfl, rfl, rfl⟩ <;> (repeat' (first | exact rfl | exact trivial | exact cellM.refl _ | exact fun _ _ _ _ => cellM.refl _ | exact fun _ => ⟨rfl, fun _ _ _ _ => cellM.refl _⟩ | refine ⟨?_, ?_⟩ | fail))
  show Value.bool (decide (idxP (fun i => badC (lkAt (lks n g) i).ca (lkAt (lks n g) i).cb (lkAt (lks n g) i).cap) n ≥ 0)) = Value.bool (anyP (fun i => badC (lkAt (lks n g) i).ca (lkAt (lks n g) i).cb (lkAt (lks n g) i).cap) n)
  rw [idxP_any]

/-! ### IndexFunc and ContainsFunc with the function 79 -/
def iF79 (n : Nat) (l : List Lk) (k : Nat) : St := ⟨[(1, .one (.clo 79 [])), (0, .one (.c (.sl n 5 (lkG l)))), (6, .one (.c (.sl n 5 (lkG l)))), (7, iv n), (8, iv k)], []⟩
def spIx79 : FSpec
  | [.one (.c (.sl n 5 g)), .one (.clo 79 [])], [] => some ⟨[n ≤ 9223372036854775806, lkOK n g], iv (idxP (fun i => decide ((lkAt (lks n g) i).a ≥ (lkAt (lks n g) i).b)) n), []⟩
  | _, _ => none
theorem ix79_holds : Holds Try.prog 85 spIx79 := by
  refine Holds.of hT Try.func85 rfl 19 rfl fun args bs out h hc => ?_
  unfold spIx79 at h
  split at h
  rotate_left
  · cases h
  rename_i n g
  simp only [Option.some.injEq] at h
  subst h
  obtain ⟨hn, hg, _⟩ := hc
  refine ⟨by simp, by simp [Res.live], fun F hF => ?_⟩
  refine W.seqR hT hHP rfl (by (repeat' (first | assumption | exact rfl | exact trivial | omega | (dsimp only; omega) | refine ⟨?_, ?_⟩ | intro _ | (simp_all; done) | fail))) ?_
  refine W.seq (W.seqR hT hHP rfl trivial ?_)
  refine W.block (W.loop (γ := { k : Nat // k ≤ n ∧ ∀ j, j < k → (fun i => decide ((lkAt (lks n g) i).a ≥ (lkAt (lks n g) i).b)) j = false }) (fun k => iF79 n (lks n g) k.1) 0 (fun k => n - k.1) ⟨0, Nat.zero_le _, fun j hj => by omega⟩ [] ?_ ?_)
  · refine ⟨by rw [hF]; rfl, ?_, ?_, rfl, rfl, rfl⟩ <;> (repeat' (first | exact rfl | exact trivial | exact cellM.refl _ | exact fun _ _ _ _ => cellM.refl _ | exact fun _ => ⟨rfl, fun _ _ _ _ => cellM.refl _⟩ | refine ⟨?_, ?_⟩ | fail))
    · exact lks_cell hg
    · exact lks_cell hg
  rintro ⟨k, hk, hkl⟩
  refine W.seqR hT hHP rfl (by (repeat' (first | assumption | exact rfl | exact trivial | omega | (dsimp only; omega) | refine ⟨?_, ?_⟩ | intro _ | (simp_all; done) | fail))) (W.seq (W.cond rfl (fun h1 => W.skip ?_) (fun h1 => W.exit ?_)))
  · have h1 : k < n := by have h1 : (k : Int) < (n : Int) := of_decide_eq_true h1; omega
    refine W.seq (W.block ?_)
    refine W.seqR hT hHP rfl (by (repeat' (first | assumption | exact rfl | exact trivial | omega | (dsimp only; omega) | refine ⟨?_, ?_⟩ | intro _ | (simp_all; done) | fail))) ?_
    refine W.seqR hT hHP rfl (by (repeat' (first | assumption | exact rfl | exact trivial | omega | (dsimp only; omega) | refine ⟨?_, ?_⟩ | intro _ | (simp_all; done) | fail))) (W.cond rfl (fun h2 => ?_) (fun h2 => ?_))
    · refine W.seqR hT hHP rfl (by (repeat' (first | assumption | exact rfl | exact trivial | omega | (dsimp only; omega) | refine ⟨?_, ?_⟩ | intro _ | (simp_all; done) | fail))) ?_
      refine W.ret ⟨_, [], rfl, rfl, ?_, ?_, rfl, rfl, rfl⟩ <;> (repeat' (first | exact rfl | exact trivial | exact cellM.refl _ | exact fun _ _ _ _ => cellM.refl _ | exact fun _ => ⟨rfl, fun _ _ _ _ => cellM.refl _⟩ | refine ⟨?_, ?_⟩ | fail))
      show Value.int .i64 (k : Int) = Value.int .i64 (idxP (fun i => decide ((lkAt (lks n g) i).a ≥ (lkAt (lks n g) i).b)) n)
      rw [idxP_stop h1 h2 hkl]
    · refine W.skip ?_
      refine W.region hT hHP rfl (by (repeat' (first | assumption | exact rfl | exact trivial | omega | (dsimp only; omega) | refine ⟨?_, ?_⟩ | intro _ | (simp_all; done) | fail))) ?_
      refine ⟨⟨k + 1, by omega, fun j hj => ?_⟩, [], ?_, ?_⟩
      · rcases Nat.lt_or_ge j k with h | h
        · exact hkl j h
        · obtain rfl : j = k := by omega
          exact h2
      · refine ⟨by rw [hF]; rfl, ?_, ?_, rfl, rfl, rfl⟩ <;> (repeat' (first | exact rfl | exact trivial | exact cellM.refl _ | exact fun _ _ _ _ => cellM.refl _ | exact fun _ => ⟨rfl, fun _ _ _ _ => cellM.refl _⟩ | refine ⟨?_, ?_⟩ | fail))
        show Value.int .i64 (IntKind.i64.wrap ((k : Int) + 1)) = Value.int .i64 ((k + 1 : Nat) : Int)
        rw [wi (by omega)]
        rfl
      · show n - (k + 1) < n - k
        omega
  · have h1 : k = n := by have h1 : ¬ (k : Int) < (n : Int) := of_decide_eq_false h1; omega
    refine W.seqR hT hHP rfl (by (repeat' (first | assumption | exact rfl | exact trivial | omega | (dsimp only; omega) | refine ⟨?_, ?_⟩ | intro _ | (simp_all; done) | fail))) ?_
    refine W.ret ⟨_, [], rfl, rfl, ?_, ?_, rfl, rfl, rfl⟩ <;> (repeat' (first | exact rfl | exact trivial | exact cellM.refl _ | exact fun _ _ _ _ => cellM.refl _ | exact fun _ => ⟨rfl, fun _ _ _ _ => cellM.refl _⟩ | refine ⟨?_, ?_⟩ | fail))
    show Value.int .i64 (-1) = Value.int .i64 (idxP (fun i => decide ((lkAt (lks n g) i).a ≥ (lkAt (lks n g) i).b)) n)
    rw [idxP_none (fun j hj => hkl j (by omega))]

def HC79 : List (Nat × FSpec) := [(85, spIx79)]
theorem hHC79 : GOK Try.prog HC79 := GOK.cons (enters Try.func85 rfl (by kernel_rfl)) ix79_holds hG0
def spCF79 : FSpec
  | [.one (.c (.sl n 5 g)), .one (.clo 79 [])], [] => some ⟨[n ≤ 9223372036854775806, lkOK n g], bv' (anyP (fun i => decide ((lkAt (lks n g) i).a ≥ (lkAt (lks n g) i).b)) n), []⟩
  | _, _ => none
theorem cf79_holds : Holds Try.prog 76 spCF79 := by
  refine Holds.of hT Try.func76 rfl 9 rfl fun args bs out h hc => ?_
  unfold spCF79 at h
  split at h
  rotate_left
  · cases h
  rename_i n g
  simp only [Option.some.injEq] at h
  subst h
  obtain ⟨hn, hg, _⟩ := hc
  refine ⟨by simp, by simp [Res.live], fun F hF => ?_⟩
  refine W.seqR hT hHC79 rfl (by (repeat' (first | assumption | exact rfl | exact trivial | omega | (dsimp only; omega) | refine ⟨?_, ?_⟩ | intro _ | (simp_all; done) | fail))) ?_
  refine W.seqR hT hHC79 rfl (by (repeat' (first | assumption | exact rfl | exact trivial | omega | (dsimp only; omega) | refine ⟨?_, ?_⟩ | intro _ | (simp_all; done) | fail))) ?_
  refine W.ret ⟨_, [], rfl, rfl, ?_, ?_, rfl, rfl, rfl⟩ <;> (repeat' (first | exact rfl | exact trivial | exact cellM.refl _ | exact fun _ _ _ _ => cellM.refl _ | exact fun _ => ⟨rfl, fun _ _ _ _ => cellM.refl _⟩ | refine ⟨?_, ?_⟩ | fail))
  show Value.bool (decide (idxP (fun i => decide ((lkAt (lks n g) i).a ≥ (lkAt (lks n g) i).b)) n ≥ 0)) = Value.bool (anyP (fun i => decide ((lkAt (lks n g) i).a ≥ (lkAt (lks n g) i).b)) n)
  rw [idxP_any]
end Go.Proofs.Ytahhejlpmacloaa

/- The walks of the binary searches. -/
namespace Go.Proofs.Ytahhejlpmacloaa
open Go Go.Eng

/-- What a binary search comes to. -/
def bsN (f : Nat → Int) : Nat → Nat → Nat → Nat
  | 0, lo, _ => lo
  | n + 1, lo, hi => if lo < hi then (if f ((lo + hi) / 2) < 0 then bsN f n ((lo + hi) / 2 + 1) hi else bsN f n lo ((lo + hi) / 2)) else lo
def bsV (f : Nat → Int) (lo hi : Nat) : Nat := bsN f (hi - lo) lo hi
theorem bsN_more {f : Nat → Int} : ∀ (n m lo hi : Nat), hi - lo ≤ n → hi - lo ≤ m → bsN f n lo hi = bsN f m lo hi := by
  intro n
  induction n with
  | zero =>
    intro m lo hi h1 h2
    cases m with
    | zero => rfl
    | succ m =>
      simp only [bsN]
      rw [if_neg (by omega)]
  | succ n ih =>
    intro m lo hi h1 h2
    cases m with
    | zero =>
      simp only [bsN]
      rw [if_neg (by omega)]
    | succ m =>
      simp only [bsN]
      split
      · split
        · exact ih m _ _ (by omega) (by omega)
        · exact ih m _ _ (by omega) (by omega)
      · rfl
theorem bsV_eq (f : Nat → Int) (lo hi : Nat) : bsV f lo hi = if lo < hi then (if f ((lo + hi) / 2) < 0 then bsV f ((lo + hi) / 2 + 1) hi else bsV f lo ((lo + hi) / 2)) else lo := by
  unfold bsV
  by_cases h : lo < hi
  · obtain ⟨n, hn⟩ : ∃ n, hi - lo = n + 1 := ⟨hi - lo - 1, by omega⟩
    rw [hn]
    simp only [bsN]
    rw [if_pos h, if_pos h]
    split
    · exact bsN_more _ _ _ _ (by omega) (by omega)
    · exact bsN_more _ _ _ _ (by omega) (by omega)
  · have hn : hi - lo = 0 := by omega
    rw [hn, if_neg h]
    rfl
def bsB (f : Nat → Int) (n : Nat) : Bool := decide (bsV f 0 n < n) && (f (bsV f 0 n) == 0)

theorem mid_eq {lo hi : Nat} (h : lo + hi ≤ 9223372036854775807) : IntKind.i64.wrap ((IntKind.u64.wrap (IntKind.i64.wrap ((lo : Int) + (hi : Int)))).fdiv (2 ^ (min (1 : Int).toNat IntKind.u64.bits))) = (((lo + hi) / 2 : Nat) : Int) := by
  rw [wi (n := (lo : Int) + (hi : Int)) (by omega)]
  have hu : IntKind.u64.wrap ((lo : Int) + (hi : Int)) = (lo : Int) + (hi : Int) := IntWalk.u64_in _ (by omega)
  rw [hu]
  have h2 : (2 : Int) ^ (min (1 : Int).toNat IntKind.u64.bits) = 2 := by decide
  rw [h2, Int.fdiv_eq_ediv_of_nonneg _ (by omega)]
  rw [wi (by omega)]
  omega

def HB : List (Nat × FSpec) := [(37, spCmpL), (75, spByID)]
theorem hHB : GOK Try.prog HB := GOK.cons (enters Try.func37 rfl (by kernel_rfl)) cmpL_holds (GOK.cons (enters Try.func75 rfl (by kernel_rfl)) byID_holds hG0)

/-! ### BinarySearchFunc with the function 37 -/
def bI37 (n : Nat) (l : List Lk) (cs : List AC) (x : Int) (lo hi : Nat) : St := ⟨[(0, .one (.c (.sl n 5 (lkG l)))), (2, .one (.clo 37 [])), (4, .one (.ptr 0 0)), (8, iv n), (9, iv lo), (10, iv hi)], [(0, .box 52 cs)]⟩
def bJ37 (n : Nat) (l : List Lk) (cs : List AC) (x : Int) (lo hi : Nat) : St := ⟨[(0, .one (.c (.sl n 5 (lkG l)))), (2, .one (.clo 37 [])), (4, .one (.ptr 0 0)), (8, iv n), (9, iv lo), (10, iv hi), (11, iv ((lo + hi) / 2 : Nat))], [(0, .box 52 cs)]⟩
def bF37 (L : List Lk) (a b : Int) (i : Nat) : Int := cmpL (lkAt L i).a (lkAt L i).b a b
def spBs37 : FSpec
  | [.one (.c (.sl n 5 g)), .agg [.c (.val (.int .i64 a)), .c (.val (.int .i64 b)), .c c2, .c c3, .c c4], .one (.clo 37 [])], [] =>
    some ⟨[n ≤ 1000000, lkOK n g], .tup [(false, [.c (.val (.int .i64 (bsV (bF37 (lks n g) a b) 0 n)))]), (false, [.c (.val (.bool (bsB (bF37 (lks n g) a b) n)))])], []⟩
  | _, _ => none
theorem bs37_holds : Holds Try.prog 36 spBs37 := by
  refine Holds.of hT Try.func36 rfl 49 rfl fun args bs out h hc => ?_
  unfold spBs37 at h
  split at h
  rotate_left
  · cases h
  rename_i n g a b c2 c3 c4
  simp only [Option.some.injEq] at h
  subst h
  obtain ⟨hn, hg, _⟩ := hc
  refine ⟨by simp, by simp [Res.live], fun F hF => ?_⟩
  refine W.seqR hT hHB rfl (by (repeat' (first | assumption | exact rfl | exact trivial | omega | (dsimp only; omega) | refine ⟨?_, ?_⟩ | intro _ | (simp_all; done) | fail))) ?_
  refine W.seqR hT hHB rfl (by (repeat' (first | assumption | exact rfl | exact trivial | omega | (dsimp only; omega) | refine ⟨?_, ?_⟩ | intro _ | (simp_all; done) | fail))) ?_
  refine W.seqR hT hHB rfl (by (repeat' (first | assumption | exact rfl | exact trivial | omega | (dsimp only; omega) | refine ⟨?_, ?_⟩ | intro _ | (simp_all; done) | fail))) ?_
  refine W.seq (W.block (W.loop (γ := { p : Nat × Nat // p.1 ≤ p.2 ∧ p.2 ≤ n ∧ bsV (bF37 (lks n g) a b) p.1 p.2 = bsV (bF37 (lks n g) a b) 0 n }) (fun p => bI37 n (lks n g) [.c (.val (.int .i64 a)), .c (.val (.int .i64 b)), .c c2, .c c3, .c c4] 0 p.1.1 p.1.2) 1 (fun p => p.1.2 - p.1.1) ⟨(0, n), Nat.zero_le _, Nat.le_refl _, rfl⟩ [(0, some 0)] ?_ ?_))
  · refine ⟨by rw [hF]; rfl, ?_, ?_, rfl, rfl, rfl⟩ <;> (repeat' (first | exact rfl | exact trivial | exact cellM.refl _ | exact fun _ _ _ _ => cellM.refl _ | exact fun _ => ⟨rfl, fun _ _ _ _ => cellM.refl _⟩ | refine ⟨?_, ?_⟩ | fail))
    exact lks_cell hg
  rintro ⟨⟨lo, hi⟩, h01, h02, h03⟩
  dsimp only at h01 h02 h03
  refine W.seq (W.seqR hT hHB rfl (by (repeat' (first | assumption | exact rfl | exact trivial | omega | (dsimp only; omega) | refine ⟨?_, ?_⟩ | intro _ | (simp_all; done) | fail))) (W.cond rfl (fun h1 => W.skip ?_) (fun h1 => W.exit ?_)))
  · have h1 : lo < hi := by have h1 : (lo : Int) < (hi : Int) := of_decide_eq_true h1; omega
    refine W.block ?_
    refine W.seqR hT hHB rfl (by (repeat' (first | assumption | exact rfl | exact trivial | omega | (dsimp only; omega) | refine ⟨?_, ?_⟩ | intro _ | (simp_all; done) | fail))) ?_
    refine W.cut (ρ := [(0, some 0)]) (nx' := 1) (t := bJ37 n (lks n g) [.c (.val (.int .i64 a)), .c (.val (.int .i64 b)), .c c2, .c c3, .c c4] 0 lo hi) ?_ ?_
    · refine ⟨by rw [hF]; rfl, ?_, ?_, rfl, rfl, rfl⟩ <;> (repeat' (first | exact rfl | exact trivial | exact cellM.refl _ | exact fun _ _ _ _ => cellM.refl _ | exact fun _ => ⟨rfl, fun _ _ _ _ => cellM.refl _⟩ | refine ⟨?_, ?_⟩ | fail))
      exact congrArg (Value.int .i64) (mid_eq (by dsimp only; omega))
    refine W.seq (W.regionDraw hT hHB (by repeat (first | exact runIt_nil | (apply runIt_cons; exact rfl))) (by kernel_rfl) hmix (by (repeat' (first | assumption | exact rfl | exact trivial | omega | (dsimp only; omega) | refine ⟨?_, ?_⟩ | intro _ | (simp_all; done) | fail))) ?_)
    refine W.cond rfl (fun h2 => ?_) (fun h2 => ?_)
    · have h2 : bF37 (lks n g) a b ((lo + hi) / 2) < 0 := of_decide_eq_true h2
      refine W.region hT hHB rfl (by (repeat' (first | assumption | exact rfl | exact trivial | omega | (dsimp only; omega) | refine ⟨?_, ?_⟩ | intro _ | (simp_all; done) | fail))) ?_
      refine ⟨⟨((lo + hi) / 2 + 1, hi), by dsimp only; omega, h02, ?_⟩, [(0, some 0)], ?_, ?_⟩
      · dsimp only
        rw [← h03]
        conv => rhs; rw [bsV_eq, if_pos h1, if_pos h2]
      · refine ⟨by rw [hF]; rfl, ?_, ?_, rfl, rfl, rfl⟩ <;> (repeat' (first | exact rfl | exact trivial | exact cellM.refl _ | exact fun _ _ _ _ => cellM.refl _ | exact fun _ => ⟨rfl, fun _ _ _ _ => cellM.refl _⟩ | refine ⟨?_, ?_⟩ | fail))
        show Value.int .i64 (IntKind.i64.wrap ((((lo + hi) / 2 : Nat) : Int) + 1)) = Value.int .i64 (((lo + hi) / 2 + 1 : Nat) : Int)
        rw [wi (by omega)]
        rfl
      · dsimp only
        omega
    · have h2 : ¬ bF37 (lks n g) a b ((lo + hi) / 2) < 0 := of_decide_eq_false h2
      refine W.region hT hHB rfl (by (repeat' (first | assumption | exact rfl | exact trivial | omega | (dsimp only; omega) | refine ⟨?_, ?_⟩ | intro _ | (simp_all; done) | fail))) ?_
      refine ⟨⟨(lo, (lo + hi) / 2), by dsimp only; omega, by dsimp only; omega, ?_⟩, [(0, some 0)], ?_, ?_⟩
      · dsimp only
        rw [← h03]
        conv => rhs; rw [bsV_eq, if_pos h1, if_neg h2]
      · refine ⟨by rw [hF]; rfl, ?_, ?_, rfl, rfl, rfl⟩ <;> (repeat' (first | exact rfl | exact trivial | exact cellM.refl _ | exact fun _ _ _ _ => cellM.refl _ | exact fun _ => ⟨rfl, fun _ _ _ _ => cellM.refl _⟩ | refine ⟨?_, ?_⟩ | fail))
      · dsimp only
        omega
  · have h1 : ¬ lo < hi := by have h1 : ¬ (lo : Int) < (hi : Int) := of_decide_eq_false h1; omega
    have hlo : bsV (bF37 (lks n g) a b) 0 n = lo := by rw [← h03, bsV_eq, if_neg h1]
    have hB : bsB (bF37 (lks n g) a b) n = (if decide ((lo : Int) < (n : Int)) = true then (bF37 (lks n g) a b lo == 0) else false) := by
      rw [bsB, hlo]
      by_cases h : lo < n <;> simp [h]
    refine W.seq (W.regionDraw hT hHB (by repeat (first | exact runIt_nil | (apply runIt_cons; exact rfl))) (by kernel_rfl) hmix (by (repeat' (first | assumption | exact rfl | exact trivial | omega | (dsimp only; omega) | refine ⟨?_, ?_⟩ | intro _ | (simp_all; done) | fail))) ?_)
    refine W.ret ⟨_, [(0, some 0)], rfl, rfl, ?_, ?_, rfl, rfl, rfl⟩ <;> (repeat' (first | exact rfl | exact trivial | exact cellM.refl _ | exact fun _ _ _ _ => cellM.refl _ | exact fun _ => ⟨rfl, fun _ _ _ _ => cellM.refl _⟩ | refine ⟨?_, ?_⟩ | fail))
    · show Value.int .i64 (lo : Int) = Value.int .i64 _
      rw [hlo]
    · show Value.bool _ = Value.bool _
      rw [hB]
      rfl

/-! ### BinarySearchFunc with the function 75 -/
def bI75 (n : Nat) (l : List (Int × Bool)) (cs : List AC) (x : Int) (lo hi : Nat) : St := ⟨[(0, .one (.c (.sl n 2 (rtL l)))), (2, .one (.clo 75 [])), (1, iv x), (8, iv n), (9, iv lo), (10, iv hi)], []⟩
def bJ75 (n : Nat) (l : List (Int × Bool)) (cs : List AC) (x : Int) (lo hi : Nat) : St := ⟨[(0, .one (.c (.sl n 2 (rtL l)))), (2, .one (.clo 75 [])), (1, iv x), (8, iv n), (9, iv lo), (10, iv hi), (11, iv ((lo + hi) / 2 : Nat))], []⟩
def bF75 (L : List (Int × Bool)) (a b : Int) (i : Nat) : Int := cmpV (rtAt L i).1 a
def spBs75 : FSpec
  | [.one (.c (.sl n 2 g)), .one (.c (.val (.int .i64 x))), .one (.clo 75 [])], [] =>
    some ⟨[n ≤ 1000000, rtOK n g], .tup [(false, [.c (.val (.int .i64 (bsV (bF75 (rts n g) x 0) 0 n)))]), (false, [.c (.val (.bool (bsB (bF75 (rts n g) x 0) n)))])], []⟩
  | _, _ => none
theorem bs75_holds : Holds Try.prog 74 spBs75 := by
  refine Holds.of hT Try.func74 rfl 49 rfl fun args bs out h hc => ?_
  unfold spBs75 at h
  split at h
  rotate_left
  · cases h
  rename_i n g x
  simp only [Option.some.injEq] at h
  subst h
  obtain ⟨hn, hg, _⟩ := hc
  refine ⟨by simp, by simp [Res.live], fun F hF => ?_⟩
  refine W.seqR hT hHB rfl (by (repeat' (first | assumption | exact rfl | exact trivial | omega | (dsimp only; omega) | refine ⟨?_, ?_⟩ | intro _ | (simp_all; done) | fail))) ?_
  refine W.seqR hT hHB rfl (by (repeat' (first | assumption | exact rfl | exact trivial | omega | (dsimp only; omega) | refine ⟨?_, ?_⟩ | intro _ | (simp_all; done) | fail))) ?_
  refine W.seqR hT hHB rfl (by (repeat' (first | assumption | exact rfl | exact trivial | omega | (dsimp only; omega) | refine ⟨?_, ?_⟩ | intro _ | (simp_all; done) | fail))) ?_
  refine W.seq (W.block (W.loop (γ := { p : Nat × Nat // p.1 ≤ p.2 ∧ p.2 ≤ n ∧ bsV (bF75 (rts n g) x 0) p.1 p.2 = bsV (bF75 (rts n g) x 0) 0 n }) (fun p => bI75 n (rts n g) [] x p.1.1 p.1.2) 0 (fun p => p.1.2 - p.1.1) ⟨(0, n), Nat.zero_le _, Nat.le_refl _, rfl⟩ [] ?_ ?_))
  · refine ⟨by rw [hF]; rfl, ?_, ?_, rfl, rfl, rfl⟩ <;> (repeat' (first | exact rfl | exact trivial | exact cellM.refl _ | exact fun _ _ _ _ => cellM.refl _ | exact fun _ => ⟨rfl, fun _ _ _ _ => cellM.refl _⟩ | refine ⟨?_, ?_⟩ | fail))
    exact rts_cell hg
  rintro ⟨⟨lo, hi⟩, h01, h02, h03⟩
  dsimp only at h01 h02 h03
  refine W.seq (W.seqR hT hHB rfl (by (repeat' (first | assumption | exact rfl | exact trivial | omega | (dsimp only; omega) | refine ⟨?_, ?_⟩ | intro _ | (simp_all; done) | fail))) (W.cond rfl (fun h1 => W.skip ?_) (fun h1 => W.exit ?_)))
  · have h1 : lo < hi := by have h1 : (lo : Int) < (hi : Int) := of_decide_eq_true h1; omega
    refine W.block ?_
    refine W.seqR hT hHB rfl (by (repeat' (first | assumption | exact rfl | exact trivial | omega | (dsimp only; omega) | refine ⟨?_, ?_⟩ | intro _ | (simp_all; done) | fail))) ?_
    refine W.cut (ρ := []) (nx' := 0) (t := bJ75 n (rts n g) [] x lo hi) ?_ ?_
    · refine ⟨by rw [hF]; rfl, ?_, ?_, rfl, rfl, rfl⟩ <;> (repeat' (first | exact rfl | exact trivial | exact cellM.refl _ | exact fun _ _ _ _ => cellM.refl _ | exact fun _ => ⟨rfl, fun _ _ _ _ => cellM.refl _⟩ | refine ⟨?_, ?_⟩ | fail))
      exact congrArg (Value.int .i64) (mid_eq (by dsimp only; omega))
    refine W.seqR hT hHB rfl (by (repeat' (first | assumption | exact rfl | exact trivial | omega | (dsimp only; omega) | refine ⟨?_, ?_⟩ | intro _ | (simp_all; done) | fail))) ?_
    refine W.cond rfl (fun h2 => ?_) (fun h2 => ?_)
    · have h2 : bF75 (rts n g) x 0 ((lo + hi) / 2) < 0 := of_decide_eq_true h2
      refine W.region hT hHB rfl (by (repeat' (first | assumption | exact rfl | exact trivial | omega | (dsimp only; omega) | refine ⟨?_, ?_⟩ | intro _ | (simp_all; done) | fail))) ?_
      refine ⟨⟨((lo + hi) / 2 + 1, hi), by dsimp only; omega, h02, ?_⟩, [], ?_, ?_⟩
      · dsimp only
        rw [← h03]
        conv => rhs; rw [bsV_eq, if_pos h1, if_pos h2]
      · refine ⟨by rw [hF]; rfl, ?_, ?_, rfl, rfl, rfl⟩ <;> (repeat' (first | exact rfl | exact trivial | exact cellM.refl _ | exact fun _ _ _ _ => cellM.refl _ | exact fun _ => ⟨rfl, fun _ _ _ _ => cellM.refl _⟩ | refine ⟨?_, ?_⟩ | fail))
        show Value.int .i64 (IntKind.i64.wrap ((((lo + hi) / 2 : Nat) : Int) + 1)) = Value.int .i64 (((lo + hi) / 2 + 1 : Nat) : Int)
        rw [wi (by omega)]
        rfl
      · dsimp only
        omega
    · have h2 : ¬ bF75 (rts n g) x 0 ((lo + hi) / 2) < 0 := of_decide_eq_false h2
      refine W.region hT hHB rfl (by (repeat' (first | assumption | exact rfl | exact trivial | omega | (dsimp only; omega) | refine ⟨?_, ?_⟩ | intro _ | (simp_all; done) | fail))) ?_
      refine ⟨⟨(lo, (lo + hi) / 2), by dsimp only; omega, by dsimp only; omega, ?_⟩, [], ?_, ?_⟩
      · dsimp only
        rw [← h03]
        conv => rhs; rw [bsV_eq, if_pos h1, if_neg h2]
      · refine ⟨by rw [hF]; rfl, ?_, ?_, rfl, rfl, rfl⟩ <;> (repeat' (first | exact rfl | exact trivial | exact cellM.refl _ | exact fun _ _ _ _ => cellM.refl _ | exact fun _ => ⟨rfl, fun _ _ _ _ => cellM.refl _⟩ | refine ⟨?_, ?_⟩ | fail))
      · dsimp only
        omega
  · have h1 : ¬ lo < hi := by have h1 : ¬ (lo : Int) < (hi : Int) := of_decide_eq_false h1; omega
    have hlo : bsV (bF75 (rts n g) x 0) 0 n = lo := by rw [← h03, bsV_eq, if_neg h1]
    have hB : bsB (bF75 (rts n g) x 0) n = (if decide ((lo : Int) < (n : Int)) = true then (bF75 (rts n g) x 0 lo == 0) else false) := by
      rw [bsB, hlo]
      by_cases h : lo < n <;> simp [h]
    refine W.seqR hT hHB rfl (by (repeat' (first | assumption | exact rfl | exact trivial | omega | (dsimp only; omega) | refine ⟨?_, ?_⟩ | intro _ | (simp_all; done) | fail))) ?_
    refine W.ret ⟨_, [], rfl, rfl, ?_, ?_, rfl, rfl, rfl⟩ <;> (repeat' (first | exact rfl | exact trivial | exact cellM.refl _ | exact fun _ _ _ _ => cellM.refl _ | exact fun _ => ⟨rfl, fun _ _ _ _ => cellM.refl _⟩ | refine ⟨?_, ?_⟩ | fail))
    · show Value.int .i64 (lo : Int) = Value.int .i64 _
      rw [hlo]
    · show Value.bool _ = Value.bool _
      rw [hB]
      rfl

/-! ### Check's test of a link's ends -/
/-- Is there a router with the number x? -/
def thereV (n : Nat) (g : Get) (x : Int) : Bool := bsB (bF75 (rts n g) x 0) n
def atV (n : Nat) (g : Get) (x : Int) : Nat := bsV (bF75 (rts n g) x 0) 0 n
def HU : List (Nat × FSpec) := [(74, spBs75)]
theorem hHU : GOK Try.prog HU := GOK.cons (enters Try.func74 rfl (by kernel_rfl)) bs75_holds hG0
def spUnk : FSpec
  | [.one (.c (.val (.int .i64 x))), .one (.ptr 0 0)], [.box 28 [.c (.sl n 2 g), .c (.sl m1 s1 g1)]] => some ⟨[n ≤ 1000000, rtOK n g], bv' (!thereV n g x), [(0, .box 28 [.c (.sl n 2 g), .c (.sl m1 s1 g1)])]⟩
  | _, _ => none
theorem unk_holds : Holds Try.prog 73 spUnk := by
  refine Holds.of hT Try.func73 rfl 15 rfl fun args bs out h hc => ?_
  unfold spUnk at h
  split at h
  rotate_left
  · cases h
  rename_i x n g m1 s1 g1
  simp only [Option.some.injEq] at h
  subst h
  obtain ⟨hn, hg, _⟩ := hc
  refine ⟨by simp, by simp [Res.live], fun F hF => ?_⟩
  refine W.seqR hT hHU rfl (by (repeat' (first | assumption | exact rfl | exact trivial | omega | (dsimp only; omega) | refine ⟨?_, ?_⟩ | intro _ | (simp_all; done) | fail))) ?_
  refine W.seqR hT hHU rfl (by (repeat' (first | assumption | exact rfl | exact trivial | omega | (dsimp only; omega) | refine ⟨?_, ?_⟩ | intro _ | (simp_all; done) | fail))) ?_
  refine W.seqR hT hHU rfl (by (repeat' (first | assumption | exact rfl | exact trivial | omega | (dsimp only; omega) | refine ⟨?_, ?_⟩ | intro _ | (simp_all; done) | fail))) ?_
  refine W.ret ⟨_, [(0, some 0)], rfl, rfl, ?_, ?_, rfl, rfl, rfl⟩ <;> (repeat' (first | exact rfl | exact trivial | exact cellM.refl _ | exact fun _ _ _ _ => cellM.refl _ | exact fun _ => ⟨rfl, fun _ _ _ _ => cellM.refl _⟩ | refine ⟨?_, ?_⟩ | fail))

def HV : List (Nat × FSpec) := [(73, spUnk)]
theorem hHV : GOK Try.prog HV := GOK.cons (enters Try.func73 rfl (by kernel_rfl)) unk_holds hG0
def spUnk2 : FSpec
  | [.agg [.c (.val (.int .i64 a)), .c (.val (.int .i64 b)), .c _, .c _, .c _], .one (.ptr 0 0)], [.box 49 [.clo 73 [(1, 0)]], .box 28 [.c (.sl n2 2 g2), .c (.sl m1 s1 g1)]] =>
    some ⟨[n2 ≤ 1000000, rtOK n2 g2], bv' (!thereV n2 g2 a || !thereV n2 g2 b), [(0, .box 49 [.clo 73 [(1, 0)]]), (1, .box 28 [.c (.sl n2 2 g2), .c (.sl m1 s1 g1)])]⟩
  | _, _ => none
theorem unk2_holds : Holds Try.prog 78 spUnk2 := by
  refine Holds.of hT Try.func78 rfl 14 rfl fun args bs out h hc => ?_
  unfold spUnk2 at h
  split at h
  rotate_left
  · cases h
  rename_i a b c2 c3 c4 n2 g2 m1 s1 g1
  simp only [Option.some.injEq] at h
  subst h
  obtain ⟨hn, hg, _⟩ := hc
  refine ⟨by simp, by simp [Res.live], fun F hF => ?_⟩
  refine W.seqR hT hHV rfl (by (repeat' (first | assumption | exact rfl | exact trivial | omega | (dsimp only; omega) | refine ⟨?_, ?_⟩ | intro _ | (simp_all; done) | fail))) ?_
  refine W.seqR hT hHV rfl (by (repeat' (first | assumption | exact rfl | exact trivial | omega | (dsimp only; omega) | refine ⟨?_, ?_⟩ | intro _ | (simp_all; done) | fail))) ?_
  refine W.ret ⟨_, [(0, some 0), (1, some 1)], rfl, rfl, ?_, ?_, rfl, rfl, rfl⟩ <;> (repeat' (first | exact rfl | exact trivial | exact cellM.refl _ | exact fun _ _ _ _ => cellM.refl _ | exact fun _ => ⟨rfl, fun _ _ _ _ => cellM.refl _⟩ | refine ⟨?_, ?_⟩ | fail))
  show Value.bool (if (!thereV n2 g2 a) = true then true else !thereV n2 g2 b) = Value.bool (!thereV n2 g2 a || !thereV n2 g2 b)
  cases thereV n2 g2 a <;> cases thereV n2 g2 b <;> rfl
def HW : List (Nat × FSpec) := [(78, spUnk2)]
theorem hHW : GOK Try.prog HW := GOK.cons (enters Try.func78 rfl (by kernel_rfl)) unk2_holds hG0

/-! ### IndexFunc and ContainsFunc with the function 78 -/
def iF78 (n2 : Nat) (g2 : Get) (m1 s1 : Nat) (g1 : Get) (n : Nat) (l : List Lk) (k : Nat) : St := ⟨[(1, .one (.clo 78 [(0, 0)])), (0, .one (.c (.sl n 5 (lkG l)))), (6, .one (.c (.sl n 5 (lkG l)))), (7, iv n), (8, iv k)], [(0, .box 49 [.clo 73 [(1, 0)]]), (1, .box 28 [.c (.sl n2 2 g2), .c (.sl m1 s1 g1)])]⟩
def spIx78 : FSpec
  | [.one (.c (.sl n 5 g)), .one (.clo 78 [(0, 0)])], [.box 49 [.clo 73 [(1, 0)]], .box 28 [.c (.sl n2 2 g2), .c (.sl m1 s1 g1)]] => some ⟨[n ≤ 9223372036854775806, lkOK n g, n2 ≤ 1000000, rtOK n2 g2], iv (idxP (fun i => (!thereV n2 g2 (lkAt (lks n g) i).a || !thereV n2 g2 (lkAt (lks n g) i).b)) n), [(0, .box 49 [.clo 73 [(1, 0)]]), (1, .box 28 [.c (.sl n2 2 g2), .c (.sl m1 s1 g1)])]⟩
  | _, _ => none
theorem ix78_holds : Holds Try.prog 85 spIx78 := by
  refine Holds.of hT Try.func85 rfl 19 rfl fun args bs out h hc => ?_
  unfold spIx78 at h
  split at h
  rotate_left
  · cases h
  rename_i n g n2 g2 m1 s1 g1
  simp only [Option.some.injEq] at h
  subst h
  obtain ⟨hn, hg, hn2, hg2, _⟩ := hc
  refine ⟨by simp, by simp [Res.live], fun F hF => ?_⟩
  refine W.seqR hT hHW rfl (by (repeat' (first | assumption | exact rfl | exact trivial | omega | (dsimp only; omega) | refine ⟨?_, ?_⟩ | intro _ | (simp_all; done) | fail))) ?_
  refine W.seq (W.seqR hT hHW rfl trivial ?_)
  refine W.block (W.loop (γ := { k : Nat // k ≤ n ∧ ∀ j, j < k → (fun i => (!thereV n2 g2 (lkAt (lks n g) i).a || !thereV n2 g2 (lkAt (lks n g) i).b)) j = false }) (fun k => iF78 n2 g2 m1 s1 g1 n (lks n g) k.1) 2 (fun k => n - k.1) ⟨0, Nat.zero_le _, fun j hj => by omega⟩ [(0, some 0), (1, some 1)] ?_ ?_)
  · refine ⟨by rw [hF]; rfl, ?_, ?_, rfl, rfl, rfl⟩ <;> (repeat' (first | exact rfl | exact trivial | exact cellM.refl _ | exact fun _ _ _ _ => cellM.refl _ | exact fun _ => ⟨rfl, fun _ _ _ _ => cellM.refl _⟩ | refine ⟨?_, ?_⟩ | fail))
    · exact lks_cell hg
    · exact lks_cell hg
  rintro ⟨k, hk, hkl⟩
  refine W.seqR hT hHW rfl (by (repeat' (first | assumption | exact rfl | exact trivial | omega | (dsimp only; omega) | refine ⟨?_, ?_⟩ | intro _ | (simp_all; done) | fail))) (W.seq (W.cond rfl (fun h1 => W.skip ?_) (fun h1 => W.exit ?_)))
  · have h1 : k < n := by have h1 : (k : Int) < (n : Int) := of_decide_eq_true h1; omega
    refine W.seq (W.block ?_)
    refine W.seqR hT hHW rfl (by (repeat' (first | assumption | exact rfl | exact trivial | omega | (dsimp only; omega) | refine ⟨?_, ?_⟩ | intro _ | (simp_all; done) | fail))) ?_
    refine W.seqR hT hHW rfl (by (repeat' (first | assumption | exact rfl | exact trivial | omega | (dsimp only; omega) | refine ⟨?_, ?_⟩ | intro _ | (simp_all; done) | fail))) (W.cond rfl (fun h2 => ?_) (fun h2 => ?_))
    · refine W.seqR hT hHW rfl (by (repeat' (first | assumption | exact rfl | exact trivial | omega | (dsimp only; omega) | refine ⟨?_, ?_⟩ | intro _ | (simp_all; done) | fail))) ?_
      refine W.ret ⟨_, [(0, some 0), (1, some 1)], rfl, rfl, ?_, ?_, rfl, rfl, rfl⟩ <;> (repeat' (first | exact rfl | exact trivial | exact cellM.refl _ | exact fun _ _ _ _ => cellM.refl _ | exact fun _ => ⟨rfl, fun _ _ _ _ => cellM.refl _⟩ | refine ⟨?_, ?_⟩ | fail))
      show Value.int .i64 (k : Int) = Value.int .i64 (idxP (fun i => (!thereV n2 g2 (lkAt (lks n g) i).a || !thereV n2 g2 (lkAt (lks n g) i).b)) n)
      rw [idxP_stop h1 h2 hkl]
    · refine W.skip ?_
      refine W.region hT hHW rfl (by (repeat' (first | assumption | exact rfl | exact trivial | omega | (dsimp only; omega) | refine ⟨?_, ?_⟩ | intro _ | (simp_all; done) | fail))) ?_
      refine ⟨⟨k + 1, by omega, fun j hj => ?_⟩, [(0, some 0), (1, some 1)], ?_, ?_⟩
      · rcases Nat.lt_or_ge j k with h | h
        · exact hkl j h
        · obtain rfl : j = k := by omega
          exact h2
      · refine ⟨by rw [hF]; rfl, ?_, ?_, rfl, rfl, rfl⟩ <;> (repeat' (first | exact rfl | exact trivial | exact cellM.refl _ | exact fun _ _ _ _ => cellM.refl _ | exact fun _ => ⟨rfl, fun _ _ _ _ => cellM.refl _⟩ | refine ⟨?_, ?_⟩ | fail))
        show Value.int .i64 (IntKind.i64.wrap ((k : Int) + 1)) = Value.int .i64 ((k + 1 : Nat) : Int)
        rw [wi (by omega)]
        rfl
      · show n - (k + 1) < n - k
        omega
  · have h1 : k = n := by have h1 : ¬ (k : Int) < (n : Int) := of_decide_eq_false h1; omega
    refine W.seqR hT hHW rfl (by (repeat' (first | assumption | exact rfl | exact trivial | omega | (dsimp only; omega) | refine ⟨?_, ?_⟩ | intro _ | (simp_all; done) | fail))) ?_
    refine W.ret ⟨_, [(0, some 0), (1, some 1)], rfl, rfl, ?_, ?_, rfl, rfl, rfl⟩ <;> (repeat' (first | exact rfl | exact trivial | exact cellM.refl _ | exact fun _ _ _ _ => cellM.refl _ | exact fun _ => ⟨rfl, fun _ _ _ _ => cellM.refl _⟩ | refine ⟨?_, ?_⟩ | fail))
    show Value.int .i64 (-1) = Value.int .i64 (idxP (fun i => (!thereV n2 g2 (lkAt (lks n g) i).a || !thereV n2 g2 (lkAt (lks n g) i).b)) n)
    rw [idxP_none (fun j hj => hkl j (by omega))]

def HC78 : List (Nat × FSpec) := [(85, spIx78)]
theorem hHC78 : GOK Try.prog HC78 := GOK.cons (enters Try.func85 rfl (by kernel_rfl)) ix78_holds hG0
def spCF78 : FSpec
  | [.one (.c (.sl n 5 g)), .one (.clo 78 [(0, 0)])], [.box 49 [.clo 73 [(1, 0)]], .box 28 [.c (.sl n2 2 g2), .c (.sl m1 s1 g1)]] => some ⟨[n ≤ 9223372036854775806, lkOK n g, n2 ≤ 1000000, rtOK n2 g2], bv' (anyP (fun i => (!thereV n2 g2 (lkAt (lks n g) i).a || !thereV n2 g2 (lkAt (lks n g) i).b)) n), [(0, .box 49 [.clo 73 [(1, 0)]]), (1, .box 28 [.c (.sl n2 2 g2), .c (.sl m1 s1 g1)])]⟩
  | _, _ => none
theorem cf78_holds : Holds Try.prog 76 spCF78 := by
  refine Holds.of hT Try.func76 rfl 9 rfl fun args bs out h hc => ?_
  unfold spCF78 at h
  split at h
  rotate_left
  · cases h
  rename_i n g n2 g2 m1 s1 g1
  simp only [Option.some.injEq] at h
  subst h
  obtain ⟨hn, hg, hn2, hg2, _⟩ := hc
  refine ⟨by simp, by simp [Res.live], fun F hF => ?_⟩
  refine W.seqR hT hHC78 rfl (by (repeat' (first | assumption | exact rfl | exact trivial | omega | (dsimp only; omega) | refine ⟨?_, ?_⟩ | intro _ | (simp_all; done) | fail))) ?_
  refine W.seqR hT hHC78 rfl (by (repeat' (first | assumption | exact rfl | exact trivial | omega | (dsimp only; omega) | refine ⟨?_, ?_⟩ | intro _ | (simp_all; done) | fail))) ?_
  refine W.ret ⟨_, [(0, some 0), (1, some 1)], rfl, rfl, ?_, ?_, rfl, rfl, rfl⟩ <;> (repeat' (first | exact rfl | exact trivial | exact cellM.refl _ | exact fun _ _ _ _ => cellM.refl _ | exact fun _ => ⟨rfl, fun _ _ _ _ => cellM.refl _⟩ | refine ⟨?_, ?_⟩ | fail))
  show Value.bool (decide (idxP (fun i => (!thereV n2 g2 (lkAt (lks n g) i).a || !thereV n2 g2 (lkAt (lks n g) i).b)) n ≥ 0)) = Value.bool (anyP (fun i => (!thereV n2 g2 (lkAt (lks n g) i).a || !thereV n2 g2 (lkAt (lks n g) i).b)) n)
  rw [idxP_any]
end Go.Proofs.Ytahhejlpmacloaa
