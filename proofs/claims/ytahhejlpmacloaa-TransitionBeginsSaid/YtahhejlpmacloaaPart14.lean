/- The walk of topology.Check. -/
import Derived.Test.YtahhejlpmacloaaPart13
namespace Go.Proofs.Ytahhejlpmacloaa
open Go Go.Eng

def thereL (R : List (Int × Bool)) (x : Int) : Bool := bsB (bF75 R x 0) R.length
def atL (R : List (Int × Bool)) (x : Int) : Nat := bsV (bF75 R x 0) 0 R.length
def manyB (n m : Nat) : Bool := if decide ((n : Int) > 24) = true then true else decide ((m : Int) > 60)
def rtStep (R : List (Int × Bool)) (i : Nat) : Bool := if decide ((i : Int) > 0) = true then decide ((rtAt R (i - 1)).1 ≥ (rtAt R i).1) else false
def lkStep (L : List Lk) (i : Nat) : Bool := if decide ((i : Int) > 0) = true then decide (cmpL (lkAt L (i - 1)).a (lkAt L (i - 1)).b (lkAt L i).a (lkAt L i).b ≥ 0) else false

/-- What Check answers. -/
def checkV (R : List (Int × Bool)) (L : List Lk) : Int :=
  if manyB R.length L.length = true then 3
  else if anyP (fun i => badR (rtAt R i).1) R.length = true then 2
  else if anyP (rtStep R) R.length = true then 25
  else if anyP (fun i => badC (lkAt L i).ca (lkAt L i).cb (lkAt L i).cap) L.length = true then 2
  else if anyP (fun i => !thereL R (lkAt L i).a || !thereL R (lkAt L i).b) L.length = true then 4
  else if anyP (fun i => decide ((lkAt L i).a ≥ (lkAt L i).b)) L.length = true then 8
  else if anyP (lkStep L) L.length = true then 25
  else 0

theorem anyP_stop {p : Nat → Bool} {n k : Nat} (hk : k < n) (hp : p k = true) : anyP p n = true := List.any_eq_true.2 ⟨k, List.mem_range.2 hk, hp⟩
theorem anyP_none {p : Nat → Bool} {n : Nat} (h : ∀ j, j < n → p j = false) : anyP p n = false := by
  unfold anyP
  rw [List.any_eq_false]
  intro x hx
  simp [h x (List.mem_range.1 hx)]
theorem anyP_false {p : Nat → Bool} {n : Nat} (h : anyP p n = false) : ∀ j, j < n → p j = false := by
  intro j hj
  cases hp : p j with
  | false => rfl
  | true => rw [anyP_stop hj hp] at h; cases h

def HK : List (Nat × FSpec) := [(71, spCF72), (76, fun xs bs => match spCF77 xs bs with | some o => some o | none => match spCF78 xs bs with | some o => some o | none => spCF79 xs bs), (37, spCmpL)]
theorem alt_holds {P : Program} {g : Nat} {s1 s2 : FSpec} (h1 : Holds P g s1) (h2 : Holds P g s2) : Holds P g (fun xs bs => match s1 xs bs with | some o => some o | none => s2 xs bs) := by
  intro xs bs out h
  simp only at h
  split at h
  · rename_i o ho
    injection h with h
    subst h
    exact h1 xs bs _ ho
  · exact h2 xs bs out h
theorem hHK : GOK Try.prog HK := GOK.cons (enters Try.func71 rfl (by kernel_rfl)) cf72_holds (GOK.cons (enters Try.func76 rfl (by kernel_rfl)) (alt_holds cf77_holds (alt_holds cf78_holds cf79_holds)) (GOK.cons (enters Try.func37 rfl (by kernel_rfl)) cmpL_holds hG0))

def topoB (R : List (Int × Bool)) (L : List Lk) : Res := .box 28 [.c (.sl R.length 2 (rtL R)), .c (.sl L.length 5 (lkG L))]
def kA (R : List (Int × Bool)) (L : List Lk) : St := ⟨[(1, .one (.ptr 0 0))], [(0, topoB R L)]⟩
def kB (R : List (Int × Bool)) (L : List Lk) (k : Nat) : St := ⟨[(1, .one (.ptr 0 0)), (23, iv R.length), (24, iv k)], [(0, topoB R L)]⟩
def kC (R : List (Int × Bool)) (L : List Lk) (k : Nat) : St := ⟨[(1, .one (.ptr 0 0)), (62, iv L.length), (63, iv k)], [(0, topoB R L)]⟩

def spCheck : FSpec
  | [.agg [.c (.sl nr 2 rt), .c (.sl nl 5 lk)]], [] => some ⟨[nr ≤ 1000000, nl ≤ 1000000, rtOK nr rt, lkOK nl lk], iv (checkV (rts nr rt) (lks nl lk)), []⟩
  | _, _ => none

set_option maxRecDepth 100000 in
theorem check_holds : Holds Try.prog 56 spCheck := by
  refine Holds.of hT Try.func56 rfl 84 rfl fun args bs out h hc => ?_
  unfold spCheck at h
  split at h
  rotate_left
  · cases h
  rename_i nr rt nl lk
  simp only [Option.some.injEq] at h
  subst h
  obtain ⟨hn1, hn2, hr, hl, _⟩ := hc
  refine ⟨by simp, by simp [Res.live], fun F hF => ?_⟩
  have hlr := rts_length nr rt
  have hll := lks_length nl lk
  refine W.seqR hT hHK rfl (by (repeat' (first | assumption | exact rfl | exact trivial | omega | (dsimp only; omega) | refine ⟨?_, ?_⟩ | intro _ | (simp_all; done) | fail))) ?_
  refine W.cut (ρ := [(0, some 0)]) (nx' := 1) (t := kA (rts nr rt) (lks nl lk)) ?_ ?_
  · refine ⟨by rw [hF]; rfl, ?_, ?_, rfl, rfl, rfl⟩ <;> (repeat' (first | exact rfl | exact trivial | exact cellM.refl _ | exact fun _ _ _ _ => cellM.refl _ | exact fun _ => ⟨rfl, fun _ _ _ _ => cellM.refl _⟩ | refine ⟨?_, ?_⟩ | fail))
    · exact hlr.symm
    · rw [hlr]; exact rts_cell hr
    · exact hll.symm
    · rw [hll]; exact lks_cell hl
  generalize hR : rts nr rt = R at hlr ⊢
  generalize hL : lks nl lk = L at hll ⊢
  have eR := rts_rtL R
  have eL := lks_lkG' L
  have okR := rtL_ok R R.length
  have okL := lkG_ok L L.length
  have hnR : R.length ≤ 1000000 := by omega
  have hnL : L.length ≤ 1000000 := by omega
  refine W.seq (W.block (W.seqR hT hHK rfl (by (repeat' (first | assumption | exact rfl | exact trivial | omega | (dsimp only; omega) | refine ⟨?_, ?_⟩ | intro _ | (simp_all; done) | fail))) (W.cond rfl (fun h1 => ?_) (fun h1 => ?_))))
  · have h1 : manyB R.length L.length = true := h1
    refine W.seqR hT hHK rfl (by (repeat' (first | assumption | exact rfl | exact trivial | omega | (dsimp only; omega) | refine ⟨?_, ?_⟩ | intro _ | (simp_all; done) | fail))) ?_
    refine W.ret ⟨_, [], rfl, rfl, ?_, ?_, rfl, rfl, rfl⟩ <;> (repeat' (first | exact rfl | exact trivial | exact cellM.refl _ | exact fun _ _ _ _ => cellM.refl _ | exact fun _ => ⟨rfl, fun _ _ _ _ => cellM.refl _⟩ | refine ⟨?_, ?_⟩ | fail))
    show Value.int .i64 3 = Value.int .i64 (checkV R L)
    rw [checkV, if_pos h1]
  have h1 : ¬ manyB R.length L.length = true := by rw [show manyB R.length L.length = false from h1]; simp
  refine W.seqR hT hHK rfl (by (repeat' (first | assumption | exact rfl | exact trivial | omega | (dsimp only; omega) | refine ⟨?_, ?_⟩ | intro _ | (simp_all; done) | fail))) (W.cond rfl (fun h2 => ?_) (fun h2 => W.skip ?_))
  · have h2 : anyP (fun i => badR (rtAt (rts R.length (rtL R)) i).1) R.length = true := h2
    rw [eR] at h2
    refine W.seqR hT hHK rfl (by (repeat' (first | assumption | exact rfl | exact trivial | omega | (dsimp only; omega) | refine ⟨?_, ?_⟩ | intro _ | (simp_all; done) | fail))) ?_
    refine W.ret ⟨_, [], rfl, rfl, ?_, ?_, rfl, rfl, rfl⟩ <;> (repeat' (first | exact rfl | exact trivial | exact cellM.refl _ | exact fun _ _ _ _ => cellM.refl _ | exact fun _ => ⟨rfl, fun _ _ _ _ => cellM.refl _⟩ | refine ⟨?_, ?_⟩ | fail))
    show Value.int .i64 2 = Value.int .i64 (checkV R L)
    rw [checkV, if_neg h1, if_pos h2]
  have h2 : anyP (fun i => badR (rtAt (rts R.length (rtL R)) i).1) R.length = false := h2
  rw [eR] at h2
  have h2 : ¬ anyP (fun i => badR (rtAt R i).1) R.length = true := by rw [h2]; simp
  refine W.seq (W.seqR hT hHK rfl (by (repeat' (first | assumption | exact rfl | exact trivial | omega | (dsimp only; omega) | refine ⟨?_, ?_⟩ | intro _ | (simp_all; done) | fail))) ?_)
  refine W.block (W.loop (γ := { k : Nat // k ≤ R.length ∧ ∀ j, j < k → rtStep R j = false }) (fun k => kB R L k.1) 1 (fun k => R.length - k.1) ⟨0, Nat.zero_le _, fun j hj => by omega⟩ [(0, some 0)] ?_ ?_)
  · refine ⟨by rw [hF]; rfl, ?_, ?_, rfl, rfl, rfl⟩ <;> (repeat' (first | exact rfl | exact trivial | exact cellM.refl _ | exact fun _ _ _ _ => cellM.refl _ | exact fun _ => ⟨rfl, fun _ _ _ _ => cellM.refl _⟩ | refine ⟨?_, ?_⟩ | fail))
  rintro ⟨k, hk, hkl⟩
  dsimp only
  refine W.seqR hT hHK rfl (by (repeat' (first | assumption | exact rfl | exact trivial | omega | (dsimp only; omega) | refine ⟨?_, ?_⟩ | intro _ | (simp_all; done) | fail))) (W.seq (W.cond rfl (fun h3 => W.skip ?_) (fun h3 => W.exit ?_)))
  · have h3 : k < R.length := by have h3 : (k : Int) < (R.length : Int) := of_decide_eq_true h3; omega
    have hw : 0 < k → (IntKind.i64.wrap ((k : Int) - 1)).toNat = k - 1 := fun h => by rw [wi (by omega)]; omega
    have hw0 : 0 < k → 0 ≤ IntKind.i64.wrap ((k : Int) - 1) ∧ IntKind.i64.wrap ((k : Int) - 1) < (R.length : Int) := fun h => by rw [wi (by omega)]; omega
    refine W.seq (W.block ?_)
    refine W.seqR hT hHK rfl (by (repeat' (first | assumption | exact rfl | exact trivial | omega | (dsimp only; omega) | refine ⟨?_, ?_⟩ | intro _ | (simp_all; done) | fail))) ?_
    refine W.seq (W.regionDraw hT hHK (by repeat (first | exact runIt_nil | (apply runIt_cons; exact rfl))) (by kernel_rfl) hmix (by (repeat' (first | assumption | exact rfl | exact trivial | omega | (dsimp only; omega) | refine ⟨?_, ?_⟩ | intro _ | (simp_all; done) | fail))) ?_)
    have step : ∀ {b : Bool}, (if decide ((k : Int) > 0) = true then decide ((rtAt R (IntKind.i64.wrap ((k : Int) - 1)).toNat).1 ≥ (rtAt R ((k : Int)).toNat).1) else false) = b → rtStep R k = b := by
      intro b hb
      rw [← hb, rtStep]
      by_cases h0 : 0 < k
      · rw [hw h0, Int.toNat_natCast]
      · rw [show decide ((k : Int) > 0) = false from decide_eq_false (by omega)]
        rfl
    refine W.cond rfl (fun h4 => ?_) (fun h4 => W.skip ?_)
    · have h4 := step h4
      refine W.seqR hT hHK rfl (by (repeat' (first | assumption | exact rfl | exact trivial | omega | (dsimp only; omega) | refine ⟨?_, ?_⟩ | intro _ | (simp_all; done) | fail))) ?_
      refine W.ret ⟨_, [], rfl, rfl, ?_, ?_, rfl, rfl, rfl⟩ <;> (repeat' (first | exact rfl | exact trivial | exact cellM.refl _ | exact fun _ _ _ _ => cellM.refl _ | exact fun _ => ⟨rfl, fun _ _ _ _ => cellM.refl _⟩ | refine ⟨?_, ?_⟩ | fail))
      show Value.int .i64 25 = Value.int .i64 (checkV R L)
      rw [checkV, if_neg h1, if_neg h2, if_pos (anyP_stop h3 h4)]
    · have h4 := step h4
      refine W.region hT hHK rfl (by (repeat' (first | assumption | exact rfl | exact trivial | omega | (dsimp only; omega) | refine ⟨?_, ?_⟩ | intro _ | (simp_all; done) | fail))) ?_
      refine ⟨⟨k + 1, by omega, fun j hj => ?_⟩, [(0, some 0)], ?_, ?_⟩
      · rcases Nat.lt_or_ge j k with h | h
        · exact hkl j h
        · obtain rfl : j = k := by omega
          exact h4
      · refine ⟨by rw [hF]; rfl, ?_, ?_, rfl, rfl, rfl⟩ <;> (repeat' (first | exact rfl | exact trivial | exact cellM.refl _ | exact fun _ _ _ _ => cellM.refl _ | exact fun _ => ⟨rfl, fun _ _ _ _ => cellM.refl _⟩ | refine ⟨?_, ?_⟩ | fail))
        show Value.int .i64 (IntKind.i64.wrap ((k : Int) + 1)) = Value.int .i64 ((k + 1 : Nat) : Int)
        rw [wi (by omega)]
        rfl
      · show R.length - (k + 1) < R.length - k
        omega
  have h3 : k = R.length := by have h3 : ¬ (k : Int) < (R.length : Int) := of_decide_eq_false h3; omega
  have h3 : ¬ anyP (rtStep R) R.length = true := by rw [anyP_none (fun j hj => hkl j (by omega))]; simp
  refine W.seqR hT hHK rfl (by (repeat' (first | assumption | exact rfl | exact trivial | omega | (dsimp only; omega) | refine ⟨?_, ?_⟩ | intro _ | (simp_all; done) | fail))) ?_
  refine W.seq (W.block (W.seqR hT hHK rfl (by (repeat' (first | assumption | exact rfl | exact trivial | omega | (dsimp only; omega) | refine ⟨?_, ?_⟩ | intro _ | (simp_all; done) | fail))) (W.cond rfl (fun h4 => ?_) (fun h4 => ?_))))
  · have h4 : anyP (fun i => badC (lkAt (lks L.length (lkG L)) i).ca (lkAt (lks L.length (lkG L)) i).cb (lkAt (lks L.length (lkG L)) i).cap) L.length = true := h4
    rw [eL] at h4
    refine W.seqR hT hHK rfl (by (repeat' (first | assumption | exact rfl | exact trivial | omega | (dsimp only; omega) | refine ⟨?_, ?_⟩ | intro _ | (simp_all; done) | fail))) ?_
    refine W.ret ⟨_, [], rfl, rfl, ?_, ?_, rfl, rfl, rfl⟩ <;> (repeat' (first | exact rfl | exact trivial | exact cellM.refl _ | exact fun _ _ _ _ => cellM.refl _ | exact fun _ => ⟨rfl, fun _ _ _ _ => cellM.refl _⟩ | refine ⟨?_, ?_⟩ | fail))
    show Value.int .i64 2 = Value.int .i64 (checkV R L)
    rw [checkV, if_neg h1, if_neg h2, if_neg h3, if_pos h4]
  have h4 : anyP (fun i => badC (lkAt (lks L.length (lkG L)) i).ca (lkAt (lks L.length (lkG L)) i).cb (lkAt (lks L.length (lkG L)) i).cap) L.length = false := h4
  rw [eL] at h4
  have h4 : ¬ anyP (fun i => badC (lkAt L i).ca (lkAt L i).cb (lkAt L i).cap) L.length = true := by rw [h4]; simp
  have e5 : (fun i => !thereV R.length (rtL R) (lkAt (lks L.length (lkG L)) i).a || !thereV R.length (rtL R) (lkAt (lks L.length (lkG L)) i).b) = fun i => !thereL R (lkAt L i).a || !thereL R (lkAt L i).b := by
    rw [eL]
    unfold thereV thereL
    rw [eR]
  refine W.seqR hT hHK rfl (by (repeat' (first | assumption | exact rfl | exact trivial | omega | (dsimp only; omega) | refine ⟨?_, ?_⟩ | intro _ | (simp_all; done) | fail))) (W.cond rfl (fun h5 => ?_) (fun h5 => ?_))
  · have h5 : anyP (fun i => !thereV R.length (rtL R) (lkAt (lks L.length (lkG L)) i).a || !thereV R.length (rtL R) (lkAt (lks L.length (lkG L)) i).b) L.length = true := h5
    rw [e5] at h5
    refine W.seqR hT hHK rfl (by (repeat' (first | assumption | exact rfl | exact trivial | omega | (dsimp only; omega) | refine ⟨?_, ?_⟩ | intro _ | (simp_all; done) | fail))) ?_
    refine W.ret ⟨_, [], rfl, rfl, ?_, ?_, rfl, rfl, rfl⟩ <;> (repeat' (first | exact rfl | exact trivial | exact cellM.refl _ | exact fun _ _ _ _ => cellM.refl _ | exact fun _ => ⟨rfl, fun _ _ _ _ => cellM.refl _⟩ | refine ⟨?_, ?_⟩ | fail))
    show Value.int .i64 4 = Value.int .i64 (checkV R L)
    rw [checkV, if_neg h1, if_neg h2, if_neg h3, if_neg h4, if_pos h5]
  have h5 : anyP (fun i => !thereV R.length (rtL R) (lkAt (lks L.length (lkG L)) i).a || !thereV R.length (rtL R) (lkAt (lks L.length (lkG L)) i).b) L.length = false := h5
  rw [e5] at h5
  have h5 : ¬ anyP (fun i => !thereL R (lkAt L i).a || !thereL R (lkAt L i).b) L.length = true := by rw [h5]; simp
  refine W.seqR hT hHK rfl (by (repeat' (first | assumption | exact rfl | exact trivial | omega | (dsimp only; omega) | refine ⟨?_, ?_⟩ | intro _ | (simp_all; done) | fail))) (W.cond rfl (fun h6 => ?_) (fun h6 => W.skip ?_))
  · have h6 : anyP (fun i => decide ((lkAt (lks L.length (lkG L)) i).a ≥ (lkAt (lks L.length (lkG L)) i).b)) L.length = true := h6
    rw [eL] at h6
    refine W.seqR hT hHK rfl (by (repeat' (first | assumption | exact rfl | exact trivial | omega | (dsimp only; omega) | refine ⟨?_, ?_⟩ | intro _ | (simp_all; done) | fail))) ?_
    refine W.ret ⟨_, [], rfl, rfl, ?_, ?_, rfl, rfl, rfl⟩ <;> (repeat' (first | exact rfl | exact trivial | exact cellM.refl _ | exact fun _ _ _ _ => cellM.refl _ | exact fun _ => ⟨rfl, fun _ _ _ _ => cellM.refl _⟩ | refine ⟨?_, ?_⟩ | fail))
    show Value.int .i64 8 = Value.int .i64 (checkV R L)
    rw [checkV, if_neg h1, if_neg h2, if_neg h3, if_neg h4, if_neg h5, if_pos h6]
  have h6 : anyP (fun i => decide ((lkAt (lks L.length (lkG L)) i).a ≥ (lkAt (lks L.length (lkG L)) i).b)) L.length = false := h6
  rw [eL] at h6
  have h6 : ¬ anyP (fun i => decide ((lkAt L i).a ≥ (lkAt L i).b)) L.length = true := by rw [h6]; simp
  refine W.seq (W.seqR hT hHK rfl (by (repeat' (first | assumption | exact rfl | exact trivial | omega | (dsimp only; omega) | refine ⟨?_, ?_⟩ | intro _ | (simp_all; done) | fail))) ?_)
  refine W.block (W.loop (γ := { k : Nat // k ≤ L.length ∧ ∀ j, j < k → lkStep L j = false }) (fun k => kC R L k.1) 1 (fun k => L.length - k.1) ⟨0, Nat.zero_le _, fun j hj => by omega⟩ [(0, some 0)] ?_ ?_)
  · refine ⟨by rw [hF]; rfl, ?_, ?_, rfl, rfl, rfl⟩ <;> (repeat' (first | exact rfl | exact trivial | exact cellM.refl _ | exact fun _ _ _ _ => cellM.refl _ | exact fun _ => ⟨rfl, fun _ _ _ _ => cellM.refl _⟩ | refine ⟨?_, ?_⟩ | fail))
  rintro ⟨k', hk, hkl'⟩
  dsimp only
  refine W.seqR hT hHK rfl (by (repeat' (first | assumption | exact rfl | exact trivial | omega | (dsimp only; omega) | refine ⟨?_, ?_⟩ | intro _ | (simp_all; done) | fail))) (W.seq (W.cond rfl (fun h7 => W.skip ?_) (fun h7 => W.exit ?_)))
  · have h7 : k' < L.length := by have h7 : (k' : Int) < (L.length : Int) := of_decide_eq_true h7; omega
    have hw : 0 < k' → (IntKind.i64.wrap ((k' : Int) - 1)).toNat = k' - 1 := fun h => by rw [wi (by omega)]; omega
    have hw0 : 0 < k' → 0 ≤ IntKind.i64.wrap ((k' : Int) - 1) ∧ IntKind.i64.wrap ((k' : Int) - 1) < (L.length : Int) := fun h => by rw [wi (by omega)]; omega
    refine W.seq (W.block ?_)
    refine W.seqR hT hHK rfl (by (repeat' (first | assumption | exact rfl | exact trivial | omega | (dsimp only; omega) | refine ⟨?_, ?_⟩ | intro _ | (simp_all; done) | fail))) ?_
    refine W.seq (W.regionDraw hT hHK (by repeat (first | exact runIt_nil | (apply runIt_cons; exact rfl))) (by kernel_rfl) hmix (by (repeat' (first | assumption | exact rfl | exact trivial | omega | (dsimp only; omega) | refine ⟨?_, ?_⟩ | intro _ | (simp_all; done) | fail))) ?_)
    have step : ∀ {b : Bool}, (if decide ((k' : Int) > 0) = true then decide (cmpL (lkAt L (IntKind.i64.wrap ((k' : Int) - 1)).toNat).a (lkAt L (IntKind.i64.wrap ((k' : Int) - 1)).toNat).b (lkAt L ((k' : Int)).toNat).a (lkAt L ((k' : Int)).toNat).b ≥ 0) else false) = b → lkStep L k' = b := by
      intro b hb
      rw [← hb, lkStep]
      by_cases h0 : 0 < k'
      · rw [hw h0, Int.toNat_natCast]
      · rw [show decide ((k' : Int) > 0) = false from decide_eq_false (by omega)]
        rfl
    refine W.cond rfl (fun h8 => ?_) (fun h8 => W.skip ?_)
    · have h8 := step h8
      refine W.seqR hT hHK rfl (by (repeat' (first | assumption | exact rfl | exact trivial | omega | (dsimp only; omega) | refine ⟨?_, ?_⟩ | intro _ | (simp_all; done) | fail))) ?_
      refine W.ret ⟨_, [], rfl, rfl, ?_, ?_, rfl, rfl, rfl⟩ <;> (repeat' (first | exact rfl | exact trivial | exact cellM.refl _ | exact fun _ _ _ _ => cellM.refl _ | exact fun _ => ⟨rfl, fun _ _ _ _ => cellM.refl _⟩ | refine ⟨?_, ?_⟩ | fail))
      show Value.int .i64 25 = Value.int .i64 (checkV R L)
      rw [checkV, if_neg h1, if_neg h2, if_neg h3, if_neg h4, if_neg h5, if_neg h6, if_pos (anyP_stop h7 h8)]
    · have h8 := step h8
      refine W.region hT hHK rfl (by (repeat' (first | assumption | exact rfl | exact trivial | omega | (dsimp only; omega) | refine ⟨?_, ?_⟩ | intro _ | (simp_all; done) | fail))) ?_
      refine ⟨⟨k' + 1, by omega, fun j hj => ?_⟩, [(0, some 0)], ?_, ?_⟩
      · rcases Nat.lt_or_ge j k' with h | h
        · exact hkl' j h
        · obtain rfl : j = k' := by omega
          exact h8
      · refine ⟨by rw [hF]; rfl, ?_, ?_, rfl, rfl, rfl⟩ <;> (repeat' (first | exact rfl | exact trivial | exact cellM.refl _ | exact fun _ _ _ _ => cellM.refl _ | exact fun _ => ⟨rfl, fun _ _ _ _ => cellM.refl _⟩ | refine ⟨?_, ?_⟩ | fail))
        show Value.int .i64 (IntKind.i64.wrap ((k' : Int) + 1)) = Value.int .i64 ((k' + 1 : Nat) : Int)
        rw [wi (by omega)]
        rfl
      · show L.length - (k' + 1) < L.length - k'
        omega
  have h7 : k' = L.length := by have h7 : ¬ (k' : Int) < (L.length : Int) := of_decide_eq_false h7; omega
  have h7 : ¬ anyP (lkStep L) L.length = true := by rw [anyP_none (fun j hj => hkl' j (by omega))]; simp
  refine W.seqR hT hHK rfl (by (repeat' (first | assumption | exact rfl | exact trivial | omega | (dsimp only; omega) | refine ⟨?_, ?_⟩ | intro _ | (simp_all; done) | fail))) ?_
  refine W.ret ⟨_, [], rfl, rfl, ?_, ?_, rfl, rfl, rfl⟩ <;> (repeat' (first | exact rfl | exact trivial | exact cellM.refl _ | exact fun _ _ _ _ => cellM.refl _ | exact fun _ => ⟨rfl, fun _ _ _ _ => cellM.refl _⟩ | refine ⟨?_, ?_⟩ | fail))
  show Value.int .i64 0 = Value.int .i64 (checkV R L)
  rw [checkV, if_neg h1, if_neg h2, if_neg h3, if_neg h4, if_neg h5, if_neg h6, if_neg h7]
end Go.Proofs.Ytahhejlpmacloaa

/- The walks of topology's valid, find, Has, Cost. -/
namespace Go.Proofs.Ytahhejlpmacloaa
open Go Go.Eng

def okB (R : List (Int × Bool)) (L : List Lk) : Bool := checkV R L == 0
def HL : List (Nat × FSpec) := (56, spCheck) :: HU
theorem hHL : GOK Try.prog HL := GOK.cons (enters Try.func56 rfl (by kernel_rfl)) check_holds hHU

def spValid : FSpec
  | [.agg [.c (.sl nr 2 rt), .c (.sl nl 5 lk)]], [] => some ⟨[nr ≤ 1000000, nl ≤ 1000000, rtOK nr rt, lkOK nl lk], bv' (okB (rts nr rt) (lks nl lk)), []⟩
  | _, _ => none
theorem valid_holds : Holds Try.prog 35 spValid := by
  refine Holds.of hT Try.func35 rfl 6 rfl fun args bs out h hc => ?_
  unfold spValid at h
  split at h
  rotate_left
  · cases h
  rename_i nr rt nl lk
  simp only [Option.some.injEq] at h
  subst h
  obtain ⟨hn1, hn2, hr, hl, _⟩ := hc
  refine ⟨by simp, by simp [Res.live], fun F hF => ?_⟩
  refine W.seqR hT hHL rfl (by (repeat' (first | assumption | exact rfl | exact trivial | omega | (dsimp only; omega) | refine ⟨?_, ?_⟩ | intro _ | (simp_all; done) | fail))) ?_
  refine W.seqR hT hHL rfl (by (repeat' (first | assumption | exact rfl | exact trivial | omega | (dsimp only; omega) | refine ⟨?_, ?_⟩ | intro _ | (simp_all; done) | fail))) ?_
  refine W.ret ⟨_, [], rfl, rfl, ?_, ?_, rfl, rfl, rfl⟩ <;> (repeat' (first | exact rfl | exact trivial | exact cellM.refl _ | exact fun _ _ _ _ => cellM.refl _ | exact fun _ => ⟨rfl, fun _ _ _ _ => cellM.refl _⟩ | refine ⟨?_, ?_⟩ | fail))
theorem valid2_holds : Holds Try.prog 62 spValid := by
  refine Holds.of hT Try.func62 rfl 6 rfl fun args bs out h hc => ?_
  unfold spValid at h
  split at h
  rotate_left
  · cases h
  rename_i nr rt nl lk
  simp only [Option.some.injEq] at h
  subst h
  obtain ⟨hn1, hn2, hr, hl, _⟩ := hc
  refine ⟨by simp, by simp [Res.live], fun F hF => ?_⟩
  refine W.seqR hT hHL rfl (by (repeat' (first | assumption | exact rfl | exact trivial | omega | (dsimp only; omega) | refine ⟨?_, ?_⟩ | intro _ | (simp_all; done) | fail))) ?_
  refine W.seqR hT hHL rfl (by (repeat' (first | assumption | exact rfl | exact trivial | omega | (dsimp only; omega) | refine ⟨?_, ?_⟩ | intro _ | (simp_all; done) | fail))) ?_
  refine W.ret ⟨_, [], rfl, rfl, ?_, ?_, rfl, rfl, rfl⟩ <;> (repeat' (first | exact rfl | exact trivial | exact cellM.refl _ | exact fun _ _ _ _ => cellM.refl _ | exact fun _ => ⟨rfl, fun _ _ _ _ => cellM.refl _⟩ | refine ⟨?_, ?_⟩ | fail))

def findV (R : List (Int × Bool)) (x : Int) : Int × Bool := if thereL R x = true then rtAt R (atL R x) else (0, false)
def spFind : FSpec
  | [.agg [.c (.sl nr 2 rt), .c (.sl nl 5 lk)], .one (.c (.val (.int .i64 x)))], [] =>
    some ⟨[nr ≤ 1000000, nl ≤ 1000000, rtOK nr rt, lkOK nl lk], .tup [(true, [.c (.val (.int .i64 (findV (rts nr rt) x).1)), .c (.val (.bool (findV (rts nr rt) x).2))]), (false, [.c (.val (.bool (thereL (rts nr rt) x)))])], []⟩
  | _, _ => none
theorem there_lt {R : List (Int × Bool)} {x : Int} (h : thereL R x = true) : atL R x < R.length := by
  unfold thereL bsB at h
  simp only [Bool.and_eq_true, decide_eq_true_eq] at h
  exact h.1
theorem find_holds : Holds Try.prog 59 spFind := by
  refine Holds.of hT Try.func59 rfl 23 rfl fun args bs out h hc => ?_
  unfold spFind at h
  split at h
  rotate_left
  · cases h
  rename_i nr rt nl lk x
  simp only [Option.some.injEq] at h
  subst h
  obtain ⟨hn1, hn2, hr, hl, _⟩ := hc
  refine ⟨by simp, by simp [Res.live], fun F hF => ?_⟩
  have hlr := rts_length nr rt
  refine W.seqR hT hHL rfl (by (repeat' (first | assumption | exact rfl | exact trivial | omega | (dsimp only; omega) | refine ⟨?_, ?_⟩ | intro _ | (simp_all; done) | fail))) ?_
  refine W.seqR hT hHL rfl (by (repeat' (first | assumption | exact rfl | exact trivial | omega | (dsimp only; omega) | refine ⟨?_, ?_⟩ | intro _ | (simp_all; done) | fail))) ?_
  have hth : thereL (rts nr rt) x = bsB (bF75 (rts nr rt) x 0) nr := by rw [thereL, hlr]
  have hat : atL (rts nr rt) x = bsV (bF75 (rts nr rt) x 0) 0 nr := by rw [atL, hlr]
  refine W.seq (W.seqR hT hHL rfl (by (repeat' (first | assumption | exact rfl | exact trivial | omega | (dsimp only; omega) | refine ⟨?_, ?_⟩ | intro _ | (simp_all; done) | fail))) (W.cond rfl (fun h1 => ?_) (fun h1 => W.skip ?_)))
  · have h1 : thereL (rts nr rt) x = false := by rw [hth]; simpa using h1
    refine W.seqR hT hHL rfl (by (repeat' (first | assumption | exact rfl | exact trivial | omega | (dsimp only; omega) | refine ⟨?_, ?_⟩ | intro _ | (simp_all; done) | fail))) ?_
    refine W.ret ⟨_, [], rfl, rfl, ?_, ?_, rfl, rfl, rfl⟩ <;> (repeat' (first | exact rfl | exact trivial | exact cellM.refl _ | exact fun _ _ _ _ => cellM.refl _ | exact fun _ => ⟨rfl, fun _ _ _ _ => cellM.refl _⟩ | refine ⟨?_, ?_⟩ | fail))
    · show Value.int .i64 0 = Value.int .i64 (findV (rts nr rt) x).1
      rw [findV, if_neg (by rw [h1]; simp)]
    · show Value.bool false = Value.bool (findV (rts nr rt) x).2
      rw [findV, if_neg (by rw [h1]; simp)]
    · show Value.bool false = Value.bool (thereL (rts nr rt) x)
      rw [h1]
  · have h1 : thereL (rts nr rt) x = true := by rw [hth]; simpa using h1
    have hlt := there_lt h1
    rw [hlr, hat] at hlt
    refine W.seqR hT hHL rfl (by (repeat' (first | assumption | exact rfl | exact trivial | omega | (dsimp only; omega) | refine ⟨?_, ?_⟩ | intro _ | (simp_all; done) | fail))) ?_
    have hf : findV (rts nr rt) x = rtAt (rts nr rt) (bsV (bF75 (rts nr rt) x 0) 0 nr) := by rw [findV, if_pos h1, hat]
    refine W.ret ⟨_, [], rfl, rfl, ?_, ?_, rfl, rfl, rfl⟩ <;> (repeat' (first | exact rfl | exact trivial | exact cellM.refl _ | exact fun _ _ _ _ => cellM.refl _ | exact fun _ => ⟨rfl, fun _ _ _ _ => cellM.refl _⟩ | refine ⟨?_, ?_⟩ | fail))
    · rw [hf]
      exact rts_cell hr _ hlt 0 (by omega)
    · rw [hf]
      exact rts_cell hr _ hlt 1 (by omega)
    · show Value.bool true = Value.bool (thereL (rts nr rt) x)
      rw [h1]

def HM : List (Nat × FSpec) := [(59, spFind), (35, spValid)]
theorem hHM : GOK Try.prog HM := GOK.cons (enters Try.func59 rfl (by kernel_rfl)) find_holds (GOK.cons (enters Try.func35 rfl (by kernel_rfl)) valid_holds hG0)
def spHasR : FSpec
  | [.agg [.c (.sl nr 2 rt), .c (.sl nl 5 lk)], .one (.c (.val (.int .i64 x)))], [] =>
    some ⟨[nr ≤ 1000000, nl ≤ 1000000, rtOK nr rt, lkOK nl lk], bv' (okB (rts nr rt) (lks nl lk) && thereL (rts nr rt) x), []⟩
  | _, _ => none
theorem hasR_holds : Holds Try.prog 38 spHasR := by
  refine Holds.of hT Try.func38 rfl 18 rfl fun args bs out h hc => ?_
  unfold spHasR at h
  split at h
  rotate_left
  · cases h
  rename_i nr rt nl lk x
  simp only [Option.some.injEq] at h
  subst h
  obtain ⟨hn1, hn2, hr, hl, _⟩ := hc
  refine ⟨by simp, by simp [Res.live], fun F hF => ?_⟩
  refine W.seqR hT hHM rfl (by (repeat' (first | assumption | exact rfl | exact trivial | omega | (dsimp only; omega) | refine ⟨?_, ?_⟩ | intro _ | (simp_all; done) | fail))) ?_
  refine W.seqR hT hHM rfl (by (repeat' (first | assumption | exact rfl | exact trivial | omega | (dsimp only; omega) | refine ⟨?_, ?_⟩ | intro _ | (simp_all; done) | fail))) ?_
  refine W.seqR hT hHM rfl (by (repeat' (first | assumption | exact rfl | exact trivial | omega | (dsimp only; omega) | refine ⟨?_, ?_⟩ | intro _ | (simp_all; done) | fail))) ?_
  refine W.ret ⟨_, [], rfl, rfl, ?_, ?_, rfl, rfl, rfl⟩ <;> (repeat' (first | exact rfl | exact trivial | exact cellM.refl _ | exact fun _ _ _ _ => cellM.refl _ | exact fun _ => ⟨rfl, fun _ _ _ _ => cellM.refl _⟩ | refine ⟨?_, ?_⟩ | fail))
  show Value.bool (if okB (rts nr rt) (lks nl lk) = true then thereL (rts nr rt) x else false) = Value.bool (okB (rts nr rt) (lks nl lk) && thereL (rts nr rt) x)
  cases okB (rts nr rt) (lks nl lk) <;> rfl

/-- What Cost answers. -/
def costV (R : List (Int × Bool)) (L : List Lk) (x y : Int) : Int × Bool :=
  if okB R L = false then (0, false)
  else if bsB (bF37 L (min x y) (max x y)) L.length = false then (0, false)
  else if x < y then ((lkAt L (bsV (bF37 L (min x y) (max x y)) 0 L.length)).ca, true)
  else ((lkAt L (bsV (bF37 L (min x y) (max x y)) 0 L.length)).cb, true)
def HN : List (Nat × FSpec) := [(36, spBs37), (35, spValid)]
theorem hHN : GOK Try.prog HN := GOK.cons (enters Try.func36 rfl (by kernel_rfl)) bs37_holds (GOK.cons (enters Try.func35 rfl (by kernel_rfl)) valid_holds hG0)
def spCost : FSpec
  | [.agg [.c (.sl nr 2 rt), .c (.sl nl 5 lk)], .one (.c (.val (.int .i64 x))), .one (.c (.val (.int .i64 y)))], [] =>
    some ⟨[nr ≤ 1000000, nl ≤ 1000000, rtOK nr rt, lkOK nl lk], .tup [(false, [.c (.val (.int .i64 (costV (rts nr rt) (lks nl lk) x y).1))]), (false, [.c (.val (.bool (costV (rts nr rt) (lks nl lk) x y).2))])], []⟩
  | _, _ => none
theorem cost_holds : Holds Try.prog 29 spCost := by
  refine Holds.of hT Try.func29 rfl 45 rfl fun args bs out h hc => ?_
  unfold spCost at h
  split at h
  rotate_left
  · cases h
  rename_i nr rt nl lk x y
  simp only [Option.some.injEq] at h
  subst h
  obtain ⟨hn1, hn2, hr, hl, _⟩ := hc
  refine ⟨by simp, by simp [Res.live], fun F hF => ?_⟩
  have hll := lks_length nl lk
  refine W.seqR hT hHN rfl (by (repeat' (first | assumption | exact rfl | exact trivial | omega | (dsimp only; omega) | refine ⟨?_, ?_⟩ | intro _ | (simp_all; done) | fail))) ?_
  refine W.seq (W.seqR hT hHN rfl (by (repeat' (first | assumption | exact rfl | exact trivial | omega | (dsimp only; omega) | refine ⟨?_, ?_⟩ | intro _ | (simp_all; done) | fail))) (W.cond rfl (fun h1 => ?_) (fun h1 => W.skip ?_)))
  · have h1 : okB (rts nr rt) (lks nl lk) = false := by simpa using h1
    refine W.seqR hT hHN rfl (by (repeat' (first | assumption | exact rfl | exact trivial | omega | (dsimp only; omega) | refine ⟨?_, ?_⟩ | intro _ | (simp_all; done) | fail))) ?_
    refine W.ret ⟨_, [], rfl, rfl, ?_, ?_, rfl, rfl, rfl⟩ <;> (repeat' (first | exact rfl | exact trivial | exact cellM.refl _ | exact fun _ _ _ _ => cellM.refl _ | exact fun _ => ⟨rfl, fun _ _ _ _ => cellM.refl _⟩ | refine ⟨?_, ?_⟩ | fail))
    · show Value.int .i64 0 = Value.int .i64 _
      rw [costV, if_pos h1]
    · show Value.bool false = Value.bool _
      rw [costV, if_pos h1]
  have h1 : ¬ okB (rts nr rt) (lks nl lk) = false := by
    have : okB (rts nr rt) (lks nl lk) = true := by simpa using h1
    rw [this]; simp
  refine W.seqR hT hHN rfl (by (repeat' (first | assumption | exact rfl | exact trivial | omega | (dsimp only; omega) | refine ⟨?_, ?_⟩ | intro _ | (simp_all; done) | fail))) ?_
  refine W.seq (W.block (W.seqR hT hHN rfl (by (repeat' (first | assumption | exact rfl | exact trivial | omega | (dsimp only; omega) | refine ⟨?_, ?_⟩ | intro _ | (simp_all; done) | fail))) (W.cond rfl (fun h2 => ?_) (fun h2 => ?_))))
  · have h2 : bsB (bF37 (lks nl lk) (min x y) (max x y)) (lks nl lk).length = false := by rw [hll]; simpa using h2
    refine W.seqR hT hHN rfl (by (repeat' (first | assumption | exact rfl | exact trivial | omega | (dsimp only; omega) | refine ⟨?_, ?_⟩ | intro _ | (simp_all; done) | fail))) ?_
    refine W.ret ⟨_, [], rfl, rfl, ?_, ?_, rfl, rfl, rfl⟩ <;> (repeat' (first | exact rfl | exact trivial | exact cellM.refl _ | exact fun _ _ _ _ => cellM.refl _ | exact fun _ => ⟨rfl, fun _ _ _ _ => cellM.refl _⟩ | refine ⟨?_, ?_⟩ | fail))
    · show Value.int .i64 0 = Value.int .i64 _
      rw [costV, if_neg h1, if_pos h2]
    · show Value.bool false = Value.bool _
      rw [costV, if_neg h1, if_pos h2]
  have h2 : bsB (bF37 (lks nl lk) (min x y) (max x y)) nl = true := by simpa using h2
  have hlt : bsV (bF37 (lks nl lk) (min x y) (max x y)) 0 nl < nl := by
    unfold bsB at h2
    simp only [Bool.and_eq_true, decide_eq_true_eq] at h2
    exact h2.1
  have h2 : ¬ bsB (bF37 (lks nl lk) (min x y) (max x y)) (lks nl lk).length = false := by rw [hll, h2]; simp
  refine W.seqR hT hHN rfl (by (repeat' (first | assumption | exact rfl | exact trivial | omega | (dsimp only; omega) | refine ⟨?_, ?_⟩ | intro _ | (simp_all; done) | fail))) (W.cond rfl (fun h3 => ?_) (fun h3 => W.skip ?_))
  · have h3 : x < y := of_decide_eq_true h3
    have hv : costV (rts nr rt) (lks nl lk) x y = ((lkAt (lks nl lk) (bsV (bF37 (lks nl lk) (min x y) (max x y)) 0 nl)).ca, true) := by rw [costV, if_neg h1, if_neg h2, if_pos h3, hll]
    refine W.seqR hT hHN rfl (by (repeat' (first | assumption | exact rfl | exact trivial | omega | (dsimp only; omega) | refine ⟨?_, ?_⟩ | intro _ | (simp_all; done) | fail))) ?_
    refine W.ret ⟨_, [], rfl, rfl, ?_, ?_, rfl, rfl, rfl⟩ <;> (repeat' (first | exact rfl | exact trivial | exact cellM.refl _ | exact fun _ _ _ _ => cellM.refl _ | exact fun _ => ⟨rfl, fun _ _ _ _ => cellM.refl _⟩ | refine ⟨?_, ?_⟩ | fail))
    · rw [hv]
      exact lks_cell hl _ hlt 2 (by omega)
    · rw [hv]
      exact cellM.refl _
  · have h3 : ¬ x < y := of_decide_eq_false h3
    have hv : costV (rts nr rt) (lks nl lk) x y = ((lkAt (lks nl lk) (bsV (bF37 (lks nl lk) (min x y) (max x y)) 0 nl)).cb, true) := by rw [costV, if_neg h1, if_neg h2, if_neg h3, hll]
    refine W.seqR hT hHN rfl (by (repeat' (first | assumption | exact rfl | exact trivial | omega | (dsimp only; omega) | refine ⟨?_, ?_⟩ | intro _ | (simp_all; done) | fail))) ?_
    refine W.ret ⟨_, [], rfl, rfl, ?_, ?_, rfl, rfl, rfl⟩ <;> (repeat' (first | exact rfl | exact trivial | exact cellM.refl _ | exact fun _ _ _ _ => cellM.refl _ | exact fun _ => ⟨rfl, fun _ _ _ _ => cellM.refl _⟩ | refine ⟨?_, ?_⟩ | fail))
    · rw [hv]
      exact lks_cell hl _ hlt 3 (by omega)
    · rw [hv]
      exact cellM.refl _
end Go.Proofs.Ytahhejlpmacloaa
