/- The walk of Apply. -/
import Derived.Test.YtahhejlpmacloaaPart19
import Derived.Test.YtahhejlpmacloaaPart10
import Derived.Test.YtahhejlpmacloaaPart11
import Derived.Test.YtahhejlpmacloaaPart18
namespace Go.Proofs.Ytahhejlpmacloaa
open Go Go.Eng

/-- A planned change. -/
structure Chg where
  a : Int
  b : Int
  ca : Int
  cb : Int
def linkOf (c : Chg) : Lk := if decide (c.a > c.b) = true then ⟨c.b, c.a, c.cb, c.ca, 0⟩ else ⟨c.a, c.b, c.ca, c.cb, 0⟩
def remB (c : Chg) : Bool := if (c.ca == 0) = true then (c.cb == 0) else false
def atV' (L : List Lk) (c : Chg) : Nat := bsV (bF37 L (linkOf c).a (linkOf c).b) 0 L.length
def thV (L : List Lk) (c : Chg) : Bool := bsB (bF37 L (linkOf c).a (linkOf c).b) L.length
def hasB (R : List (Int × Bool)) (L : List Lk) (x : Int) : Bool := okB R L && thereL R x
def costB (x : Int) : Bool := decide (1 ≤ x ∧ x ≤ 1000)
/-- What Apply answers. -/
def applyV (R : List (Int × Bool)) (L : List Lk) (c : Chg) : List (Int × Bool) × List Lk × Int :=
  if okB R L = false then ([], [], 1)
  else if (if (!hasB R L c.a) = true then true else !hasB R L c.b) = true then ([], [], 4)
  else if (c.a == c.b) = true then ([], [], 8)
  else if (if (!remB c) = true then (if (!costB c.ca) = true then true else !costB c.cb) else false) = true then ([], [], 2)
  else if (if remB c = true then !thV L c else false) = true then ([], [], 9)
  else if (if (!thV L c) = true then ((L.length : Int) == 60) else false) = true then ([], [], 3)
  else if remB c = true then (R, L.take (atV' L c) ++ L.drop (atV' L c + 1), 0)
  else if thV L c = true then (R, L.set (atV' L c) ⟨(linkOf c).a, (linkOf c).b, (linkOf c).ca, (linkOf c).cb, (lkAt L (atV' L c)).cap⟩, 0)
  else (R, L.take (atV' L c) ++ linkOf c :: L.drop (atV' L c), 0)

def HD4 : List (Nat × FSpec) := [(35, spValid), (36, spBs37), (38, spHasR), (39, spIn), (40, spClone40), (41, spClone41), (42, spDel), (43, spInsert)]
set_option maxRecDepth 100000 in
theorem hHD4 : GOK Try.prog HD4 := GOK.cons (enters Try.func35 rfl (by kernel_rfl)) valid_holds (GOK.cons (enters Try.func36 rfl (by kernel_rfl)) bs37_holds (GOK.cons (enters Try.func38 rfl (by kernel_rfl)) hasR_holds
  (GOK.cons (enters Try.func39 rfl (by kernel_rfl)) in_holds (GOK.cons (enters Try.func40 rfl (by kernel_rfl)) clone40_holds (GOK.cons (enters Try.func41 rfl (by kernel_rfl)) clone41_holds
  (GOK.cons (enters Try.func42 rfl (by kernel_rfl)) del_holds (GOK.cons (enters Try.func43 rfl (by kernel_rfl)) insert_holds hG0)))))))

def chgB (c : Chg) : Res := .box 35 [.c (.val (.int .i64 c.a)), .c (.val (.int .i64 c.b)), .c (.val (.int .i64 c.ca)), .c (.val (.int .i64 c.cb))]
def lkB (l : Lk) : Res := .box 52 [.c (.val (.int .i64 l.a)), .c (.val (.int .i64 l.b)), .c (.val (.int .i64 l.ca)), .c (.val (.int .i64 l.cb)), .c (.val (.int .i64 l.cap))]
def apA (R : List (Int × Bool)) (L : List Lk) (c : Chg) : St := ⟨[(2, .one (.ptr 0 0)), (3, .one (.ptr 1 0)), (4, .one (.ptr 2 0))], [(0, topoB R L), (1, chgB c), (2, .box 28 [.nil, .nil])]⟩
def apC (R : List (Int × Bool)) (L : List Lk) (c : Chg) (l : Lk) : St := ⟨[(2, .one (.ptr 0 0)), (3, .one (.ptr 1 0)), (4, .one (.ptr 2 0)), (6, .one (.ptr 3 0))], [(0, topoB R L), (1, chgB c), (2, .box 28 [.nil, .nil]), (3, lkB l)]⟩
def apB (R : List (Int × Bool)) (L : List Lk) (c : Chg) (l : Lk) (rem : Bool) (i : Nat) (th : Bool) : St :=
  ⟨[(2, .one (.ptr 0 0)), (3, .one (.ptr 1 0)), (4, .one (.ptr 2 0)), (6, .one (.ptr 3 0)), (7, bv rem), (8, iv i), (9, bv th)], [(0, topoB R L), (1, chgB c), (2, .box 28 [.nil, .nil]), (3, lkB l)]⟩
def apD (R : List (Int × Bool)) (L : List Lk) (l : Lk) (rem : Bool) (i : Nat) (th : Bool) : St :=
  ⟨[(4, .one (.ptr 2 0)), (6, .one (.ptr 3 0)), (7, bv rem), (8, iv i), (9, bv th), (10, .one (.ptr 4 0))], [(2, .box 28 [.nil, .nil]), (3, lkB l), (4, .box 28 [.own 5, .own 6]), (5, .row 47 2 R.length (rtL R)), (6, .row 52 5 L.length (lkG L))]⟩
def spApply : FSpec
  | [.agg [.c (.sl nr 2 rt), .c (.sl nl 5 lk)], .agg [.c (.val (.int .i64 a)), .c (.val (.int .i64 b)), .c (.val (.int .i64 ca)), .c (.val (.int .i64 cb))]], [] =>
    some ⟨[nr ≤ 1000, nl ≤ 1000, rtOK nr rt, lkOK nl lk], .tup [(true, [.own 0, .own 1]), (false, [.c (.val (.int .i64 (applyV (rts nr rt) (lks nl lk) ⟨a, b, ca, cb⟩).2.2))])],
      [(0, .row 47 2 (applyV (rts nr rt) (lks nl lk) ⟨a, b, ca, cb⟩).1.length (rtL (applyV (rts nr rt) (lks nl lk) ⟨a, b, ca, cb⟩).1)),
       (1, .row 52 5 (applyV (rts nr rt) (lks nl lk) ⟨a, b, ca, cb⟩).2.1.length (lkG (applyV (rts nr rt) (lks nl lk) ⟨a, b, ca, cb⟩).2.1))]⟩
  | _, _ => none

theorem bsV_le {f : Nat → Int} (k : Nat) : ∀ {lo hi : Nat}, hi - lo ≤ k → lo ≤ hi → bsV f lo hi ≤ hi := by
  induction k with
  | zero =>
    intro lo hi hk hl
    rw [bsV_eq, if_neg (by omega)]
    exact hl
  | succ k ih =>
    intro lo hi hk hl
    rw [bsV_eq]
    split
    · split
      · exact ih (by omega) (by omega)
      · have := ih (lo := lo) (hi := (lo + hi) / 2) (by omega) (by omega)
        omega
    · exact hl
theorem del_cell {L : List Lk} {q : Nat} (hq : q < L.length) : ∀ i, i < (L.take q ++ L.drop (q + 1)).length → ∀ j, j < 5 → cellM (delG (lkG L) q (q + 1) i j) (lkG (L.take q ++ L.drop (q + 1)) i j) := by
  intro i hi j hj
  unfold delG
  have e : ∀ k, lkAt L k = lkAt (L.take q ++ L.drop (q + 1)) i → cellM (lkG L k j) (lkG (L.take q ++ L.drop (q + 1)) i j) := by
    intro k h
    unfold lkG
    rw [h]
    exact cellM.refl _
  split
  · rename_i h
    refine e i ?_
    simp only [lkAt, List.getD_eq_getElem?_getD]
    rw [List.getElem?_append_left (by rw [List.length_take]; omega), List.getElem?_take, if_pos h]
  · rename_i h
    refine e (i + (q + 1 - q)) ?_
    have h1 : ¬ i < (L.take q).length := by simp; omega
    simp only [lkAt, List.getD_eq_getElem?_getD]
    rw [List.getElem?_append_right (by omega), List.getElem?_drop, List.length_take, Nat.min_eq_left (by omega)]
    congr 2
    omega
theorem ins_cell {L : List Lk} {l : Lk} {q : Nat} (hq : q ≤ L.length) {g' : Get} (hg : ∀ j, j < 5 → g' 0 j = .val (.int .i64 (l.fld j))) : ∀ i, i < (L.take q ++ l :: L.drop q).length → ∀ j, j < 5 → cellM (insG (lkG L) g' q i j) (lkG (L.take q ++ l :: L.drop q) i j) := by
  intro i hi j hj
  unfold insG
  have e : ∀ k, lkAt L k = lkAt (L.take q ++ l :: L.drop q) i → cellM (lkG L k j) (lkG (L.take q ++ l :: L.drop q) i j) := by
    intro k h
    unfold lkG
    rw [h]
    exact cellM.refl _
  split
  · rename_i h
    refine e i ?_
    simp only [lkAt, List.getD_eq_getElem?_getD]
    rw [List.getElem?_append_left (by rw [List.length_take]; omega), List.getElem?_take, if_pos h]
  · split
    · rename_i h1 h2
      obtain rfl : i = q := by omega
      have hl : lkAt (L.take i ++ l :: L.drop i) i = l := by simp [lkAt, Nat.min_eq_left hq]
      rw [Nat.sub_self, hg j hj]
      unfold lkG
      rw [hl]
      exact cellM.refl _
    · rename_i h1 h2
      refine e (i - 1) ?_
      simp only [lkAt, List.getD_eq_getElem?_getD]
      rw [List.getElem?_append_right (by simp; omega), List.length_take, Nat.min_eq_left hq, show i - q = (i - q - 1) + 1 from by omega, List.getElem?_cons_succ, List.getElem?_drop]
      congr 2
      omega
theorem set_cell {L : List Lk} {l : Lk} {q : Nat} (hq : q < L.length) {cs : List Cell} (hcs : cs = [.val (.int .i64 l.a), .val (.int .i64 l.b), .val (.int .i64 l.ca), .val (.int .i64 l.cb), .val (.int .i64 l.cap)]) :
    ∀ i, i < (L.set q l).length → ∀ j, j < 5 → cellM (withRun (lkG L) cs q 0 i j) (lkG (L.set q l) i j) := by
  intro i hi j hj
  subst hcs
  unfold withRun
  by_cases h : i = q
  · subst h
    have hl : lkAt (L.set i l) i = l := by simp [lkAt, hq]
    rw [Nat.beq_refl]
    match j, hj with
    | 0, _ => simp only [lkG, hl]; exact cellM.refl _
    | 1, _ => simp only [lkG, hl]; exact cellM.refl _
    | 2, _ => simp only [lkG, hl]; exact cellM.refl _
    | 3, _ => simp only [lkG, hl]; exact cellM.refl _
    | 4, _ => simp only [lkG, hl]; exact cellM.refl _
  · have hb : Nat.beq i q = false := by
      cases hb : Nat.beq i q with
      | false => rfl
      | true => exact absurd (Nat.eq_of_beq_eq_true hb) h
    rw [hb]
    have hl : lkAt (L.set q l) i = lkAt L i := by simp [lkAt, List.getElem?_set, Ne.symm h]
    simp only [lkG, hl]
    exact cellM.refl _

set_option maxRecDepth 100000 in
set_option maxHeartbeats 4000000 in
theorem apply_holds : Holds Try.prog 28 spApply := by
  refine Holds.of hT Try.func28 rfl 145 rfl fun args bs out h hc => ?_
  unfold spApply at h
  split at h
  rotate_left
  · cases h
  rename_i nr rt nl lk a b ca cb
  simp only [Option.some.injEq] at h
  subst h
  obtain ⟨hn1, hn2, hr, hl, _⟩ := hc
  refine ⟨by simp, by simp [Res.live], fun F hF => ?_⟩
  have hlr := rts_length nr rt
  have hll := lks_length nl lk
  generalize hR : rts nr rt = R at hlr ⊢
  generalize hL : lks nl lk = L at hll ⊢
  generalize hc : (⟨a, b, ca, cb⟩ : Chg) = c
  have eA : c.a = a := by rw [← hc]
  have eB : c.b = b := by rw [← hc]
  have eCa : c.ca = ca := by rw [← hc]
  have eCb : c.cb = cb := by rw [← hc]
  refine W.seqR hT hHD4 rfl (by (repeat' (first | assumption | exact rfl | exact trivial | omega | (dsimp only; omega) | refine ⟨?_, ?_⟩ | intro _ | (simp_all; done) | fail))) ?_
  refine W.cut (ρ := [(0, some 0), (1, some 16), (2, some 32)]) (nx' := 3) (t := apA R L c) ?_ ?_
  · subst hc
    refine ⟨by rw [hF]; rfl, ?_, ?_, rfl, rfl, rfl⟩ <;> (repeat' (first | exact rfl | exact trivial | exact cellM.refl _ | exact fun _ _ _ _ => cellM.refl _ | exact fun _ => ⟨rfl, fun _ _ _ _ => cellM.refl _⟩ | refine ⟨?_, ?_⟩ | fail))
    · exact hlr.symm
    · rw [hlr, ← hR]; exact rts_cell hr
    · exact hll.symm
    · rw [hll, ← hL]; exact lks_cell hl
  have eR := rts_rtL R
  have eL := lks_lkG' L
  have okR := rtL_ok R R.length
  have okL := lkG_ok L L.length
  refine W.seq (W.seqR hT hHD4 rfl (by (repeat' (first | assumption | exact rfl | exact trivial | omega | (dsimp only; omega) | refine ⟨?_, ?_⟩ | intro _ | (simp_all; done) | fail))) (W.cond rfl (fun h1 => ?_) (fun h1 => W.skip ?_)))
  · have h1 : okB R L = false := by rw [eR, eL] at h1; simpa using h1
    have hv : applyV R L c = ([], [], 1) := by rw [applyV, if_pos h1]
    rw [hv]
    refine W.seqR hT hHD4 rfl (by (repeat' (first | assumption | exact rfl | exact trivial | omega | (dsimp only; omega) | refine ⟨?_, ?_⟩ | intro _ | (simp_all; done) | fail))) ?_
    refine W.ret ⟨_, [(0, none), (1, none)], rfl, rfl, ?_, ?_, rfl, rfl, rfl⟩ <;> (repeat' (first | exact rfl | exact trivial | exact cellM.refl _ | exact fun _ _ _ _ => cellM.refl _ | exact fun _ => ⟨rfl, fun _ _ _ _ => cellM.refl _⟩ | refine ⟨?_, ?_⟩ | fail))
  have h1 : okB R L = true := by rw [eR, eL] at h1; simpa using h1
  refine W.seqR hT hHD4 rfl (by (repeat' (first | assumption | exact rfl | exact trivial | omega | (dsimp only; omega) | refine ⟨?_, ?_⟩ | intro _ | (simp_all; done) | fail))) ?_
  refine W.meet (γ := Unit) (fun _ => apC R L c (linkOf c)) 4 ?_ (fun _ => ?_)
  · refine W.seqR hT hHD4 rfl (by (repeat' (first | assumption | exact rfl | exact trivial | omega | (dsimp only; omega) | refine ⟨?_, ?_⟩ | intro _ | (simp_all; done) | fail))) (W.cond rfl (fun h2 => ?_) (fun h2 => W.skip ?_))
    · have hlk : linkOf c = ⟨c.b, c.a, c.cb, c.ca, 0⟩ := by rw [linkOf, if_pos h2]
      rw [hlk]
      refine W.region hT hHD4 rfl (by (repeat' (first | assumption | exact rfl | exact trivial | omega | (dsimp only; omega) | refine ⟨?_, ?_⟩ | intro _ | (simp_all; done) | fail))) ?_
      refine ⟨(), [(0, some 0), (1, some 1), (2, some 2), (3, some 195)], ?_⟩
      refine ⟨by rw [hF]; rfl, ?_, ?_, rfl, rfl, rfl⟩ <;> (repeat' (first | exact rfl | exact trivial | exact cellM.refl _ | exact fun _ _ _ _ => cellM.refl _ | exact fun _ => ⟨rfl, fun _ _ _ _ => cellM.refl _⟩ | refine ⟨?_, ?_⟩ | fail))
    · have hlk : linkOf c = ⟨c.a, c.b, c.ca, c.cb, 0⟩ := by rw [linkOf, if_neg (by rw [h2]; exact Bool.false_ne_true)]
      rw [hlk]
      refine ⟨(), [(0, some 0), (1, some 1), (2, some 2), (3, some 195)], ?_⟩
      refine ⟨by rw [hF]; rfl, ?_, ?_, rfl, rfl, rfl⟩ <;> (repeat' (first | exact rfl | exact trivial | exact cellM.refl _ | exact fun _ _ _ _ => cellM.refl _ | exact fun _ => ⟨rfl, fun _ _ _ _ => cellM.refl _⟩ | refine ⟨?_, ?_⟩ | fail))
  refine W.seqR hT hHD4 rfl (by exact ⟨rfl, fun _ => trivial, fun h => ⟨h, trivial⟩, fun h => ⟨h, rfl, trivial⟩, fun h => h, fun _ => rfl, trivial⟩) ?_
  refine W.seqR hT hHD4 rfl (by exact ⟨by omega, okL, trivial⟩) ?_
  refine W.cut (ρ := [(0, some 0), (1, some 1), (2, some 2), (3, some 3)]) (nx' := 4) (t := apB R L c (linkOf c) (remB c) (atV' L c) (thV L c)) ?_ ?_
  · refine ⟨by rw [hF]; rfl, ?_, ?_, rfl, rfl, rfl⟩ <;> (repeat' (first | exact rfl | exact trivial | exact cellM.refl _ | exact fun _ _ _ _ => cellM.refl _ | exact fun _ => ⟨rfl, fun _ _ _ _ => cellM.refl _⟩ | refine ⟨?_, ?_⟩ | fail))
    · show Value.int .i64 (bsV (bF37 (lks L.length (lkG L)) (linkOf c).a (linkOf c).b) 0 L.length : Nat) = Value.int .i64 (atV' L c : Nat)
      rw [eL]
      rfl
    · show Value.bool (bsB (bF37 (lks L.length (lkG L)) (linkOf c).a (linkOf c).b) L.length) = Value.bool (thV L c)
      rw [eL]
      rfl
  have hsome : thV L c = true → atV' L c < L.length := fun h => by
    unfold thV at h
    exact (bsB_at h).1
  refine W.seq (W.block ?_)
  have hap : applyV R L c = applyV R L c := rfl
  conv at hap => rhs; unfold applyV
  rw [if_neg (by rw [h1]; simp)] at hap
  have g1 : ∀ {t : Bool}, t = false → (!t) = true := by rintro _ rfl; rfl
  refine W.seqR hT hHD4 rfl ⟨by omega, by omega, okR, okL, fun _ => trivial, fun _ => trivial, fun h => ⟨h, trivial⟩, fun h => ⟨h, h, by omega, by omega, okR, okL, trivial⟩, fun h => ⟨h, trivial⟩, fun _ => rfl, g1, trivial⟩ (W.cond rfl (fun h2 => ?_) (fun h2 => ?_))
  · rw [eR, eL] at h2
    have h2 : (if (!hasB R L c.a) = true then true else !hasB R L c.b) = true := h2
    rw [if_pos h2] at hap
    rw [hap]
    refine W.seqR hT hHD4 rfl (by (repeat' (first | assumption | exact rfl | exact trivial | omega | (dsimp only; omega) | refine ⟨?_, ?_⟩ | intro _ | (simp_all; done) | fail))) ?_
    refine W.ret ⟨_, [(0, none), (1, none)], rfl, rfl, ?_, ?_, rfl, rfl, rfl⟩ <;> (repeat' (first | exact rfl | exact trivial | exact cellM.refl _ | exact fun _ _ _ _ => cellM.refl _ | exact fun _ => ⟨rfl, fun _ _ _ _ => cellM.refl _⟩ | refine ⟨?_, ?_⟩ | fail))
  rw [eR, eL] at h2
  have h2 : (if (!hasB R L c.a) = true then true else !hasB R L c.b) = false := h2
  rw [if_neg (ne_true_of_eq_false h2)] at hap
  refine W.seqR hT hHD4 rfl (by (repeat' (first | assumption | exact rfl | exact trivial | omega | (dsimp only; omega) | refine ⟨?_, ?_⟩ | intro _ | (simp_all; done) | fail))) (W.cond rfl (fun h3 => ?_) (fun h3 => ?_))
  · rw [if_pos h3] at hap
    rw [hap]
    refine W.seqR hT hHD4 rfl (by (repeat' (first | assumption | exact rfl | exact trivial | omega | (dsimp only; omega) | refine ⟨?_, ?_⟩ | intro _ | (simp_all; done) | fail))) ?_
    refine W.ret ⟨_, [(0, none), (1, none)], rfl, rfl, ?_, ?_, rfl, rfl, rfl⟩ <;> (repeat' (first | exact rfl | exact trivial | exact cellM.refl _ | exact fun _ _ _ _ => cellM.refl _ | exact fun _ => ⟨rfl, fun _ _ _ _ => cellM.refl _⟩ | refine ⟨?_, ?_⟩ | fail))
  rw [if_neg (ne_true_of_eq_false h3)] at hap
  refine W.seqR hT hHD4 rfl ?_ (W.cond rfl (fun h4 => ?_) (fun h4 => ?_))
  · clear hap hsome
    exact ⟨fun _ => trivial, fun h => ⟨h, trivial⟩, fun h => ⟨h, trivial⟩, fun h => ⟨h, trivial⟩, fun _ => trivial, fun _ => trivial, fun h => ⟨h, trivial⟩, fun h => ⟨h, trivial⟩, fun h => ⟨h, trivial⟩, fun h => ⟨by simp_all, by simp_all, by simp_all, trivial⟩, fun h => h, fun _ => rfl, trivial⟩
  · have h4 : (if (!remB c) = true then (if (!costB c.ca) = true then true else !costB c.cb) else false) = true := h4
    rw [if_pos h4] at hap
    rw [hap]
    refine W.seqR hT hHD4 rfl (by (repeat' (first | assumption | exact rfl | exact trivial | omega | (dsimp only; omega) | refine ⟨?_, ?_⟩ | intro _ | (simp_all; done) | fail))) ?_
    refine W.ret ⟨_, [(0, none), (1, none)], rfl, rfl, ?_, ?_, rfl, rfl, rfl⟩ <;> (repeat' (first | exact rfl | exact trivial | exact cellM.refl _ | exact fun _ _ _ _ => cellM.refl _ | exact fun _ => ⟨rfl, fun _ _ _ _ => cellM.refl _⟩ | refine ⟨?_, ?_⟩ | fail))
  have h4 : (if (!remB c) = true then (if (!costB c.ca) = true then true else !costB c.cb) else false) = false := h4
  rw [if_neg (ne_true_of_eq_false h4)] at hap
  refine W.seqR hT hHD4 rfl ?_ (W.cond rfl (fun h5 => ?_) (fun h5 => ?_))
  · clear hap hsome
    exact ⟨fun _ => trivial, fun h => ⟨h, trivial⟩, fun h => h, fun _ => rfl, trivial⟩
  · rw [if_pos h5] at hap
    rw [hap]
    refine W.seqR hT hHD4 rfl (by (repeat' (first | assumption | exact rfl | exact trivial | omega | (dsimp only; omega) | refine ⟨?_, ?_⟩ | intro _ | (simp_all; done) | fail))) ?_
    refine W.ret ⟨_, [(0, none), (1, none)], rfl, rfl, ?_, ?_, rfl, rfl, rfl⟩ <;> (repeat' (first | exact rfl | exact trivial | exact cellM.refl _ | exact fun _ _ _ _ => cellM.refl _ | exact fun _ => ⟨rfl, fun _ _ _ _ => cellM.refl _⟩ | refine ⟨?_, ?_⟩ | fail))
  rw [if_neg (ne_true_of_eq_false h5)] at hap
  refine W.seqR hT hHD4 rfl ?_ (W.cond rfl (fun h6 => ?_) (fun h6 => W.skip ?_))
  · clear hap hsome
    exact ⟨fun _ => trivial, fun h => ⟨h, trivial⟩, fun h => ⟨h, trivial⟩, fun h => ⟨h, rfl, trivial⟩, fun h => h, fun _ => rfl, trivial⟩
  · have h6 : (if (!thV L c) = true then ((L.length : Int) == 60) else false) = true := h6
    rw [if_pos h6] at hap
    rw [hap]
    refine W.seqR hT hHD4 rfl (by (repeat' (first | assumption | exact rfl | exact trivial | omega | (dsimp only; omega) | refine ⟨?_, ?_⟩ | intro _ | (simp_all; done) | fail))) ?_
    refine W.ret ⟨_, [(0, none), (1, none)], rfl, rfl, ?_, ?_, rfl, rfl, rfl⟩ <;> (repeat' (first | exact rfl | exact trivial | exact cellM.refl _ | exact fun _ _ _ _ => cellM.refl _ | exact fun _ => ⟨rfl, fun _ _ _ _ => cellM.refl _⟩ | refine ⟨?_, ?_⟩ | fail))
  have h6 : (if (!thV L c) = true then ((L.length : Int) == 60) else false) = false := h6
  rw [if_neg (ne_true_of_eq_false h6)] at hap
  refine W.seq (W.regionDrawF 7 hT hHD4 rfl (fun _ => rfl) (by repeat (first | exact runItF_nil | (apply runItF_free rfl) | (apply runItF_cons rfl; exact rfl))) (by repeat (first | exact runIt_nil | (apply runIt_cons; exact rfl))) (by kernel_rfl) hmix (by exact ⟨by omega, by omega, trivial⟩) ?_)
  refine W.cut (ρ := [(2, some 2), (3, some 3), (4, some 900), (5, some 820), (6, some 868)]) (nx' := 7) (t := apD R L (linkOf c) (remB c) (atV' L c) (thV L c)) ?_ ?_
  · refine ⟨by rw [hF]; rfl, ?_, ?_, rfl, rfl, rfl⟩ <;> (repeat' (first | exact rfl | exact trivial | exact cellM.refl _ | exact fun _ _ _ _ => cellM.refl _ | exact fun _ => ⟨rfl, fun _ _ _ _ => cellM.refl _⟩ | refine ⟨?_, ?_⟩ | fail))
  clear h2 h3 h4 g1
  have hql : atV' L c ≤ L.length := bsV_le L.length (by omega) (Nat.zero_le _)
  generalize linkOf c = l at hap ⊢
  generalize atV' L c = q at hap hsome hql ⊢
  generalize thV L c = th at hap hsome h5 h6 ⊢
  generalize remB c = rem at hap h5 ⊢
  have hwq : q < L.length → IntKind.i64.wrap ((q : Int) + 1) = ((q + 1 : Nat) : Int) := fun h => by
    rw [wi (by omega)]
    rfl
  refine W.seq (W.block (W.seqR hT hHD4 rfl (by (repeat' (first | assumption | exact rfl | exact trivial | omega | (dsimp only; omega) | refine ⟨?_, ?_⟩ | intro _ | (simp_all; done) | fail))) (W.cond rfl (fun h7 => ?_) (fun h7 => ?_))))
  · have h7 : rem = true := h7
    rw [if_pos h7] at hap
    have hth : th = true := by rw [h7, if_pos rfl] at h5; simpa using h5
    have hq := hsome hth
    have hw := hwq hq
    refine W.region hT hHD4 rfl ⟨rfl, by omega, trivial⟩ ?_
    rw [hap]
    refine W.seqR hT hHD4 rfl (by (repeat' (first | assumption | exact rfl | exact trivial | omega | (dsimp only; omega) | refine ⟨?_, ?_⟩ | intro _ | (simp_all; done) | fail))) ?_
    refine W.ret ⟨_, [(0, some 5), (1, some 119)], rfl, rfl, ?_, ?_, rfl, rfl, rfl⟩ <;> (repeat' (first | exact rfl | exact trivial | exact cellM.refl _ | exact fun _ _ _ _ => cellM.refl _ | exact fun _ => ⟨rfl, fun _ _ _ _ => cellM.refl _⟩ | refine ⟨?_, ?_⟩ | fail))
    · show ((q : Int).toNat + (L.length - (IntKind.i64.wrap ((q : Int) + 1)).toNat)) = (L.take q ++ L.drop (q + 1)).length
      rw [hw, List.length_append, List.length_take, List.length_drop, Int.toNat_natCast, Int.toNat_natCast]
      omega
    · intro i hi j hj
      show cellM (delG (lkG L) (q : Int).toNat (IntKind.i64.wrap ((q : Int) + 1)).toNat i j) _
      rw [hw, Int.toNat_natCast, Int.toNat_natCast]
      exact del_cell hq i hi j hj
  have h7 : rem = false := h7
  rw [if_neg (ne_true_of_eq_false h7)] at hap
  refine W.seqR hT hHD4 rfl (by (repeat' (first | assumption | exact rfl | exact trivial | omega | (dsimp only; omega) | refine ⟨?_, ?_⟩ | intro _ | (simp_all; done) | fail))) (W.cond rfl (fun h8 => ?_) (fun h8 => ?_))
  · have h8 : th = true := h8
    rw [if_pos h8] at hap
    have hq := hsome h8
    refine W.seqR hT hHD4 rfl (by exact ⟨by omega, by omega, by omega, trivial⟩) ?_
    refine W.region hT hHD4 rfl ⟨by omega, by omega, by omega, trivial⟩ ?_
    rw [hap]
    refine W.seqR hT hHD4 rfl (by (repeat' (first | assumption | exact rfl | exact trivial | omega | (dsimp only; omega) | refine ⟨?_, ?_⟩ | intro _ | (simp_all; done) | fail))) ?_
    refine W.ret ⟨_, [(0, some 5), (1, some 6)], rfl, rfl, ?_, ?_, rfl, rfl, rfl⟩ <;> (repeat' (first | exact rfl | exact trivial | exact cellM.refl _ | exact fun _ _ _ _ => cellM.refl _ | exact fun _ => ⟨rfl, fun _ _ _ _ => cellM.refl _⟩ | refine ⟨?_, ?_⟩ | fail))
    · exact (List.length_set ..).symm
    · exact set_cell hq rfl
  · have h8 : th = false := h8
    rw [if_neg (ne_true_of_eq_false h8)] at hap
    refine W.region hT hHD4 rfl ⟨by omega, by omega, trivial⟩ ?_
    rw [hap]
    refine W.seqR hT hHD4 rfl (by (repeat' (first | assumption | exact rfl | exact trivial | omega | (dsimp only; omega) | refine ⟨?_, ?_⟩ | intro _ | (simp_all; done) | fail))) ?_
    refine W.ret ⟨_, [(0, some 5), (1, some 151)], rfl, rfl, ?_, ?_, rfl, rfl, rfl⟩ <;> (repeat' (first | exact rfl | exact trivial | exact cellM.refl _ | exact fun _ _ _ _ => cellM.refl _ | exact fun _ => ⟨rfl, fun _ _ _ _ => cellM.refl _⟩ | refine ⟨?_, ?_⟩ | fail))
    · show L.length + 1 = (L.take q ++ l :: L.drop q).length
      rw [List.length_append, List.length_take, List.length_cons, List.length_drop]
      omega
    · refine ins_cell hql (fun j hj => ?_)
      match j, hj with
      | 0, _ => rfl
      | 1, _ => rfl
      | 2, _ => rfl
      | 3, _ => rfl
      | 4, _ => rfl
end Go.Proofs.Ytahhejlpmacloaa

/- The walks of transition's read and Kind. -/
namespace Go.Proofs.Ytahhejlpmacloaa
open Go Go.Eng

structure ChS where
  up : Bool
  dn : Bool
  dirs : List (Int × Int)
def upB (up : Bool) (o n : Int × Bool) : Bool := if up = true then true else if o.2 = true then (if (!n.2) = true then true else decide (n.1 > o.1)) else false
def dnB (dn : Bool) (o n : Int × Bool) : Bool := if dn = true then true else if n.2 = true then (if (!o.2) = true then true else decide (n.1 < o.1)) else false
def chB (o n : Int × Bool) : Bool := if (o.2 != n.2) = true then true else n.1 != o.1
def chStep (R : List (Int × Bool)) (L : List Lk) (R2 : List (Int × Bool)) (L2 : List Lk) (s : ChS) (h : Int × Int) : ChS :=
  ⟨upB s.up (costV R L h.1 h.2) (costV R2 L2 h.1 h.2), dnB s.dn (costV R L h.1 h.2) (costV R2 L2 h.1 h.2), if chB (costV R L h.1 h.2) (costV R2 L2 h.1 h.2) = true then s.dirs ++ [h] else s.dirs⟩
def hopsOf (c : Chg) : List (Int × Int) := [(c.a, c.b), (c.b, c.a)]
def chV (R : List (Int × Bool)) (L : List Lk) (c : Chg) : ChS := (hopsOf c).foldl (chStep R L (applyV R L c).1 (applyV R L c).2.1) ⟨false, false, []⟩
structure RdV where
  kind : Int
  R : List (Int × Bool)
  L : List Lk
  dirs : List (Int × Int)
  e : Int
/-- What read answers. -/
def readV (R : List (Int × Bool)) (L : List Lk) (c : Chg) : RdV :=
  if ((applyV R L c).2.2 != 0) = true then ⟨0, [], [], [], (applyV R L c).2.2⟩
  else if (if (chV R L c).up = true then (chV R L c).dn else false) = true then ⟨0, [], [], [], 8⟩
  else if (chV R L c).dn = true then ⟨2, (applyV R L c).1, (applyV R L c).2.1, (chV R L c).dirs, 0⟩
  else ⟨1, R, L, (chV R L c).dirs, 0⟩

theorem applyV_len (R : List (Int × Bool)) (L : List Lk) (c : Chg) : (applyV R L c).1.length ≤ R.length ∧ (applyV R L c).2.1.length ≤ L.length + 1 := by
  unfold applyV
  repeat' split
  all_goals simp
  all_goals omega
theorem chStep_len (R : List (Int × Bool)) (L : List Lk) (R2 : List (Int × Bool)) (L2 : List Lk) (s : ChS) (h : Int × Int) : (chStep R L R2 L2 s h).dirs.length ≤ s.dirs.length + 1 := by
  unfold chStep
  dsimp only
  split <;> simp

def HD5 : List (Nat × FSpec) := [(28, spApply), (29, spCost)]
set_option maxRecDepth 100000 in
theorem hHD5 : GOK Try.prog HD5 := GOK.cons (enters Try.func28 rfl (by kernel_rfl)) apply_holds (GOK.cons (enters Try.func29 rfl (by kernel_rfl)) cost_holds hG0)

def trA (R : List (Int × Bool)) (L : List Lk) (c : Chg) : St := ⟨[(2, .one (.ptr 0 0)), (3, .one (.ptr 1 0)), (5, .one (.ptr 2 0)), (6, .one .nil)], [(0, topoB R L), (1, chgB c), (2, .box 28 [.nil, .nil])]⟩
def trB (R : List (Int × Bool)) (L : List Lk) (c : Chg) (R2 : List (Int × Bool)) (L2 : List Lk) (e : Int) : St :=
  ⟨[(2, .one (.ptr 0 0)), (3, .one (.ptr 1 0)), (5, .one (.ptr 2 0)), (6, .one .nil), (8, .one (.ptr 3 0)), (7, iv e)], [(0, topoB R L), (1, chgB c), (2, .box 28 [.nil, .nil]), (3, .box 28 [.own 4, .own 5]), (4, .row 47 2 R2.length (rtL R2)), (5, .row 52 5 L2.length (lkG L2))]⟩
def trC (R : List (Int × Bool)) (L : List Lk) (c : Chg) (R2 : List (Int × Bool)) (L2 : List Lk) (s : ChS) (k : Nat) : St :=
  ⟨[(2, .one (.ptr 0 0)), (5, .one (.ptr 1 0)), (6, .one (.own 3)), (8, .one (.ptr 2 0)), (9, bv s.up), (10, bv s.dn), (37, .one (.own 4)), (38, iv 2), (39, iv k)],
    [(0, topoB R L), (1, .box 28 [.nil, .nil]), (2, topoB R2 L2), (3, .row 72 2 s.dirs.length (stG s.dirs)), (4, .row 72 2 2 (stG (hopsOf c)))]⟩
def trD (R : List (Int × Bool)) (L : List Lk) (c : Chg) (R2 : List (Int × Bool)) (L2 : List Lk) (s : ChS) (k : Nat) (h : Int × Int) : St :=
  ⟨[(2, .one (.ptr 0 0)), (5, .one (.ptr 1 0)), (6, .one (.own 3)), (8, .one (.ptr 2 0)), (9, bv s.up), (10, bv s.dn), (37, .one (.own 4)), (38, iv 2), (39, iv k), (12, .one (.ptr 5 0))],
    [(0, topoB R L), (1, .box 28 [.nil, .nil]), (2, topoB R2 L2), (3, .row 72 2 s.dirs.length (stG s.dirs)), (4, .row 72 2 2 (stG (hopsOf c))), (5, .box 72 [.c (.val (.int .i64 h.1)), .c (.val (.int .i64 h.2))])]⟩
def trE (R : List (Int × Bool)) (L : List Lk) (c : Chg) (R2 : List (Int × Bool)) (L2 : List Lk) (s : ChS) (k : Nat) (h : Int × Int) (o n : Int × Bool) : St :=
  ⟨[(2, .one (.ptr 0 0)), (5, .one (.ptr 1 0)), (6, .one (.own 3)), (8, .one (.ptr 2 0)), (9, bv s.up), (10, bv s.dn), (37, .one (.own 4)), (38, iv 2), (39, iv k), (12, .one (.ptr 5 0)), (13, iv o.1), (14, bv o.2), (15, iv n.1), (16, bv n.2)],
    [(0, topoB R L), (1, .box 28 [.nil, .nil]), (2, topoB R2 L2), (3, .row 72 2 s.dirs.length (stG s.dirs)), (4, .row 72 2 2 (stG (hopsOf c))), (5, .box 72 [.c (.val (.int .i64 h.1)), .c (.val (.int .i64 h.2))])]⟩

def spReadT : FSpec
  | [.agg [.c (.sl nr 2 rt), .c (.sl nl 5 lk)], .agg [.c (.val (.int .i64 a)), .c (.val (.int .i64 b)), .c (.val (.int .i64 ca)), .c (.val (.int .i64 cb))]], [] =>
    some ⟨[nr ≤ 999, nl ≤ 998, rtOK nr rt, lkOK nl lk],
      .tup [(false, [.c (.val (.int .i64 (readV (rts nr rt) (lks nl lk) ⟨a, b, ca, cb⟩).kind))]),
        (true, [.c (.sl (readV (rts nr rt) (lks nl lk) ⟨a, b, ca, cb⟩).R.length 2 (rtL (readV (rts nr rt) (lks nl lk) ⟨a, b, ca, cb⟩).R)), .c (.sl (readV (rts nr rt) (lks nl lk) ⟨a, b, ca, cb⟩).L.length 5 (lkG (readV (rts nr rt) (lks nl lk) ⟨a, b, ca, cb⟩).L))]),
        (false, [.own 0]), (false, [.c (.val (.int .i64 (readV (rts nr rt) (lks nl lk) ⟨a, b, ca, cb⟩).e))])],
      [(0, .row 72 2 (readV (rts nr rt) (lks nl lk) ⟨a, b, ca, cb⟩).dirs.length (stG (readV (rts nr rt) (lks nl lk) ⟨a, b, ca, cb⟩).dirs))]⟩
  | _, _ => none

set_option maxRecDepth 100000 in
set_option maxHeartbeats 4000000 in
theorem readT_holds : Holds Try.prog 18 spReadT := by
  refine Holds.of hT Try.func18 rfl 112 rfl fun args bs out h hc => ?_
  unfold spReadT at h
  split at h
  rotate_left
  · cases h
  rename_i nr rt nl lk a b ca cb
  simp only [Option.some.injEq] at h
  subst h
  obtain ⟨hn1, hn2, hr, hl, _⟩ := hc
  refine ⟨by simp, by simp [Res.live], fun F hF => ?_⟩
  have hlr := rts_length nr rt
  have hll := lks_length nl lk
  generalize hR : rts nr rt = R at hlr ⊢
  generalize hL : lks nl lk = L at hll ⊢
  generalize hc : (⟨a, b, ca, cb⟩ : Chg) = c
  refine W.seqR hT hHD5 rfl (by (repeat' (first | assumption | exact rfl | exact trivial | omega | (dsimp only; omega) | refine ⟨?_, ?_⟩ | intro _ | (simp_all; done) | fail))) ?_
  refine W.cut (ρ := [(0, some 0), (1, some 16), (2, some 48)]) (nx' := 3) (t := trA R L c) ?_ ?_
  · subst hc
    refine ⟨by rw [hF]; rfl, ?_, ?_, rfl, rfl, rfl⟩ <;> (repeat' (first | exact rfl | exact trivial | exact cellM.refl _ | exact fun _ _ _ _ => cellM.refl _ | exact fun _ => ⟨rfl, fun _ _ _ _ => cellM.refl _⟩ | refine ⟨?_, ?_⟩ | fail))
    · exact hlr.symm
    · rw [hlr, ← hR]; exact rts_cell hr
    · exact hll.symm
    · rw [hll, ← hL]; exact lks_cell hl
  have eR := rts_rtL R
  have eL := lks_lkG' L
  have okR := rtL_ok R R.length
  have okL := lkG_ok L L.length
  have hec : (⟨c.a, c.b, c.ca, c.cb⟩ : Chg) = c := rfl
  refine W.seqR hT hHD5 rfl (by exact ⟨by omega, by omega, okR, okL, trivial⟩) ?_
  have hal := applyV_len R L c
  have hrv : readV R L c = readV R L c := rfl
  have hcv : chV R L c = chV R L c := rfl
  conv at hrv => rhs; unfold readV
  conv at hcv => rhs; unfold chV
  refine W.cut (ρ := [(0, some 0), (1, some 1), (2, some 2), (3, some 99), (4, some 35), (5, some 36)]) (nx' := 6) (t := trB R L c (applyV R L c).1 (applyV R L c).2.1 (applyV R L c).2.2) ?_ ?_
  · refine ⟨by rw [hF]; rfl, ?_, ?_, rfl, rfl, rfl⟩ <;> (repeat' (first | exact rfl | exact trivial | exact cellM.refl _ | exact fun _ _ _ _ => cellM.refl _ | exact fun _ => ⟨rfl, fun _ _ _ _ => cellM.refl _⟩ | refine ⟨?_, ?_⟩ | fail))
    · show Value.int .i64 (applyV (rts R.length (rtL R)) (lks L.length (lkG L)) c).2.2 = Value.int .i64 (applyV R L c).2.2
      rw [eR, eL]
    all_goals rw [eR, eL]
    all_goals exact fun _ _ _ _ => cellM.refl _
  generalize (applyV R L c).1 = R2 at hal hrv hcv ⊢
  generalize (applyV R L c).2.1 = L2 at hal hrv hcv ⊢
  generalize (applyV R L c).2.2 = e at hrv ⊢
  obtain ⟨hal1, hal2⟩ := hal
  have okR2 := rtL_ok R2 R2.length
  have okL2 := lkG_ok L2 L2.length
  have eR2 := rts_rtL R2
  have eL2 := lks_lkG' L2
  refine W.seq (W.seqR hT hHD5 rfl (by (repeat' (first | assumption | exact rfl | exact trivial | omega | (dsimp only; omega) | refine ⟨?_, ?_⟩ | intro _ | (simp_all; done) | fail))) (W.cond rfl (fun h1 => ?_) (fun h1 => W.skip ?_)))
  · have h1 : (e != 0) = true := h1
    rw [if_pos h1] at hrv
    rw [hrv]
    refine W.seqR hT hHD5 rfl (by (repeat' (first | assumption | exact rfl | exact trivial | omega | (dsimp only; omega) | refine ⟨?_, ?_⟩ | intro _ | (simp_all; done) | fail))) ?_
    refine W.ret ⟨_, [(0, none)], rfl, rfl, ?_, ?_, rfl, rfl, rfl⟩ <;> (repeat' (first | exact rfl | exact trivial | exact cellM.refl _ | exact fun _ _ _ _ => cellM.refl _ | exact fun _ => ⟨rfl, fun _ _ _ _ => cellM.refl _⟩ | refine ⟨?_, ?_⟩ | fail))
  have h1 : (e != 0) = false := h1
  rw [if_neg (ne_true_of_eq_false h1)] at hrv
  refine W.settle 3 rfl rfl rfl ?_
  refine W.seqR hT hHD5 rfl (by (repeat' (first | assumption | exact rfl | exact trivial | omega | (dsimp only; omega) | refine ⟨?_, ?_⟩ | intro _ | (simp_all; done) | fail))) ?_
  refine W.seq (W.seqR hT hHD5 rfl (by (repeat' (first | assumption | exact rfl | exact trivial | omega | (dsimp only; omega) | refine ⟨?_, ?_⟩ | intro _ | (simp_all; done) | fail))) ?_)
  refine W.block (W.loop (γ := { k : Nat // k ≤ 2 }) (fun k => trC R L c R2 L2 (((hopsOf c).take k.1).foldl (chStep R L R2 L2) ⟨false, false, []⟩) k.1) 5 (fun k => 2 - k.1) ⟨0, Nat.zero_le _⟩ [(0, some 0), (1, some 2), (2, some 3), (3, none), (4, some 230)] ?_ ?_)
  · refine ⟨by rw [hF]; rfl, ?_, ?_, rfl, rfl, rfl⟩ <;> (repeat' (first | exact rfl | exact trivial | exact cellM.refl _ | exact fun _ _ _ _ => cellM.refl _ | exact fun _ => ⟨rfl, fun _ _ _ _ => cellM.refl _⟩ | refine ⟨?_, ?_⟩ | fail))
    intro i hi j hj
    match i, hi, j, hj with
    | 0, _, 0, _ => exact cellM.refl _
    | 0, _, 1, _ => exact cellM.refl _
    | 1, _, 0, _ => exact cellM.refl _
    | 1, _, 1, _ => exact cellM.refl _
  rintro ⟨k, hk⟩
  dsimp only at hk ⊢
  refine W.seqR hT hHD5 rfl (by (repeat' (first | assumption | exact rfl | exact trivial | omega | (dsimp only; omega) | refine ⟨?_, ?_⟩ | intro _ | (simp_all; done) | fail))) (W.seq (W.cond rfl (fun h2 => W.skip ?_) (fun h2 => W.exit ?_)))
  rotate_left
  · have h2 : k = 2 := by have h2 : ¬ (k : Int) < 2 := of_decide_eq_false h2; omega
    subst h2
    have hcv : ((hopsOf c).take 2).foldl (chStep R L R2 L2) ⟨false, false, []⟩ = chV R L c := hcv.symm
    rw [hcv]
    generalize chV R L c = s0 at hrv ⊢
    refine W.seq (W.block (W.seqR hT hHD5 rfl ⟨fun _ => trivial, fun h => h, fun _ => rfl, trivial⟩ (W.cond rfl (fun h6 => ?_) (fun h6 => ?_))))
    · have h6 : (if s0.up = true then s0.dn else false) = true := h6
      rw [if_pos h6] at hrv
      rw [hrv]
      refine W.seqR hT hHD5 rfl (by (repeat' (first | assumption | exact rfl | exact trivial | omega | (dsimp only; omega) | refine ⟨?_, ?_⟩ | intro _ | (simp_all; done) | fail))) ?_
      refine W.ret ⟨_, [(0, none)], rfl, rfl, ?_, ?_, rfl, rfl, rfl⟩ <;> (repeat' (first | exact rfl | exact trivial | exact cellM.refl _ | exact fun _ _ _ _ => cellM.refl _ | exact fun _ => ⟨rfl, fun _ _ _ _ => cellM.refl _⟩ | refine ⟨?_, ?_⟩ | fail))
    have h6 : (if s0.up = true then s0.dn else false) = false := h6
    rw [if_neg (ne_true_of_eq_false h6)] at hrv
    refine W.seqR hT hHD5 rfl (by (repeat' (first | assumption | exact rfl | exact trivial | omega | (dsimp only; omega) | refine ⟨?_, ?_⟩ | intro _ | (simp_all; done) | fail))) (W.cond rfl (fun h7 => ?_) (fun h7 => W.skip ?_))
    · have h7 : s0.dn = true := h7
      rw [if_pos h7] at hrv
      rw [hrv]
      refine W.seq (W.regionDraw hT hHD5 (by repeat (first | exact runIt_nil | (apply runIt_cons; exact rfl))) (by kernel_rfl) hmix (by (repeat' (first | assumption | exact rfl | exact trivial | omega | (dsimp only; omega) | refine ⟨?_, ?_⟩ | intro _ | (simp_all; done) | fail))) ?_)
      refine W.ret ⟨_, [(0, some 3)], rfl, rfl, ?_, ?_, rfl, rfl, rfl⟩ <;> (repeat' (first | exact rfl | exact trivial | exact cellM.refl _ | exact fun _ _ _ _ => cellM.refl _ | exact fun _ => ⟨rfl, fun _ _ _ _ => cellM.refl _⟩ | refine ⟨?_, ?_⟩ | fail))
    have h7 : s0.dn = false := h7
    rw [if_neg (ne_true_of_eq_false h7)] at hrv
    rw [hrv]
    refine W.seq (W.regionDraw hT hHD5 (by repeat (first | exact runIt_nil | (apply runIt_cons; exact rfl))) (by kernel_rfl) hmix (by (repeat' (first | assumption | exact rfl | exact trivial | omega | (dsimp only; omega) | refine ⟨?_, ?_⟩ | intro _ | (simp_all; done) | fail))) ?_)
    refine W.ret ⟨_, [(0, some 3)], rfl, rfl, ?_, ?_, rfl, rfl, rfl⟩ <;> (repeat' (first | exact rfl | exact trivial | exact cellM.refl _ | exact fun _ _ _ _ => cellM.refl _ | exact fun _ => ⟨rfl, fun _ _ _ _ => cellM.refl _⟩ | refine ⟨?_, ?_⟩ | fail))
  have h2 : k < 2 := by have h2 : (k : Int) < 2 := of_decide_eq_true h2; omega
  have hhl : (hopsOf c).length = 2 := rfl
  have hst := fold_step (chStep R L R2 L2) ⟨false, false, []⟩ (l := hopsOf c) (k := k) (by omega)
  have hst := hst.trans (congrArg (chStep R L R2 L2 (((hopsOf c).take k).foldl (chStep R L R2 L2) ⟨false, false, []⟩)) (show _ = stAt (hopsOf c) k from by
    unfold stAt
    rw [List.getD_eq_getElem?_getD, List.getElem?_eq_getElem (by omega)]
    rfl))
  have hdl : (((hopsOf c).take k).foldl (chStep R L R2 L2) ⟨false, false, []⟩).dirs.length ≤ k := by
    have : ∀ (l : List (Int × Int)) (s : ChS), (l.foldl (chStep R L R2 L2) s).dirs.length ≤ s.dirs.length + l.length := by
      intro l
      induction l with
      | nil => exact fun s => Nat.le_refl _
      | cons x l ih =>
        intro s
        have h1 := ih (chStep R L R2 L2 s x)
        have h2 := chStep_len R L R2 L2 s x
        simp only [List.foldl_cons, List.length_cons]
        omega
    have := this ((hopsOf c).take k) ⟨false, false, []⟩
    rw [List.length_take, hhl] at this
    simp only [List.length_nil] at this
    omega
  generalize ((hopsOf c).take k).foldl (chStep R L R2 L2) ⟨false, false, []⟩ = s0 at hst hdl ⊢
  generalize hh0 : stAt (hopsOf c) k = h at hst
  have wk : Value.int .i64 (IntKind.i64.wrap ((k : Int) + 1)) = Value.int .i64 ((k + 1 : Nat) : Int) := by
    rw [wi (by omega)]
    rfl
  refine W.seq (W.block ?_)
  refine W.seqR hT hHD5 rfl (by (repeat' (first | assumption | exact rfl | exact trivial | omega | (dsimp only; omega) | refine ⟨?_, ?_⟩ | intro _ | (simp_all; done) | fail))) ?_
  refine W.cut (ρ := [(0, some 0), (1, some 1), (2, some 2), (3, some 3), (4, some 4), (5, some 53)]) (nx' := 6) (t := trD R L c R2 L2 s0 k h) ?_ ?_
  · subst hh0
    refine ⟨by rw [hF]; rfl, ?_, ?_, rfl, rfl, rfl⟩ <;> (repeat' (first | exact rfl | exact trivial | exact cellM.refl _ | exact fun _ _ _ _ => cellM.refl _ | exact fun _ => ⟨rfl, fun _ _ _ _ => cellM.refl _⟩ | refine ⟨?_, ?_⟩ | fail))
  refine W.seqR hT hHD5 rfl (by exact ⟨by omega, by omega, okR, okL, trivial⟩) ?_
  refine W.seqR hT hHD5 rfl (by exact ⟨by omega, by omega, okR2, okL2, trivial⟩) ?_
  refine W.cut (ρ := [(0, some 0), (1, some 1), (2, some 2), (3, some 3), (4, some 4), (5, some 5)]) (nx' := 6) (t := trE R L c R2 L2 s0 k h (costV R L h.1 h.2) (costV R2 L2 h.1 h.2)) ?_ ?_
  · refine ⟨by rw [hF]; rfl, ?_, ?_, rfl, rfl, rfl⟩ <;> (repeat' (first | exact rfl | exact trivial | exact cellM.refl _ | exact fun _ _ _ _ => cellM.refl _ | exact fun _ => ⟨rfl, fun _ _ _ _ => cellM.refl _⟩ | refine ⟨?_, ?_⟩ | fail))
    · show Value.int .i64 (costV (rts R.length (rtL R)) (lks L.length (lkG L)) h.1 h.2).1 = Value.int .i64 (costV R L h.1 h.2).1
      rw [eR, eL]
    · show Value.bool (costV (rts R.length (rtL R)) (lks L.length (lkG L)) h.1 h.2).2 = Value.bool (costV R L h.1 h.2).2
      rw [eR, eL]
    · show Value.int .i64 (costV (rts R2.length (rtL R2)) (lks L2.length (lkG L2)) h.1 h.2).1 = Value.int .i64 (costV R2 L2 h.1 h.2).1
      rw [eR2, eL2]
    · show Value.bool (costV (rts R2.length (rtL R2)) (lks L2.length (lkG L2)) h.1 h.2).2 = Value.bool (costV R2 L2 h.1 h.2).2
      rw [eR2, eL2]
  rw [chStep] at hst
  generalize costV R L h.1 h.2 = o at hst ⊢
  generalize costV R2 L2 h.1 h.2 = n at hst ⊢
  have g1 : ∀ {t : Bool}, t = false → (!t) = true := by rintro _ rfl; rfl
  refine W.seqR hT hHD5 rfl ?_ ?_
  · clear hst
    exact ⟨fun _ => trivial, fun _ => trivial, fun _ => trivial, fun h => ⟨h, trivial⟩, fun _ => trivial, fun _ => trivial, fun _ => trivial, fun h => ⟨h, h, rfl, trivial⟩, fun h => ⟨by simp_all, by simp_all, by simp_all, trivial⟩, fun h => ⟨by simp_all, by simp_all, by simp_all, trivial⟩, fun _ => rfl, g1, trivial⟩
  refine W.seqR hT hHD5 rfl ?_ ?_
  · clear hst
    exact ⟨fun _ => trivial, fun _ => trivial, fun _ => trivial, fun h => ⟨h, trivial⟩, fun _ => trivial, fun _ => trivial, fun _ => trivial, fun h => ⟨h, h, rfl, trivial⟩, fun h => ⟨by simp_all, by simp_all, by simp_all, trivial⟩, fun h => ⟨by simp_all, by simp_all, by simp_all, trivial⟩, fun _ => rfl, g1, trivial⟩
  refine W.seqR hT hHD5 rfl ⟨fun _ => trivial, fun _ => trivial, fun h => ⟨h, h, rfl, trivial⟩, fun _ => rfl, g1, trivial⟩ (W.cond rfl (fun h3 => ?_) (fun h3 => W.skip ?_))
  · have h3 : chB o n = true := h3
    rw [if_pos h3] at hst
    refine W.region hT hHD5 rfl (by (repeat' (first | assumption | exact rfl | exact trivial | omega | (dsimp only; omega) | refine ⟨?_, ?_⟩ | intro _ | (simp_all; done) | fail))) ?_
    refine W.region hT hHD5 rfl (by (repeat' (first | assumption | exact rfl | exact trivial | omega | (dsimp only; omega) | refine ⟨?_, ?_⟩ | intro _ | (simp_all; done) | fail))) ?_
    refine ⟨⟨k + 1, by omega⟩, [(0, some 0), (1, some 1), (2, some 2), (3, some 630), (4, some 4)], ?_, ?_⟩
    · dsimp only
      rw [hst]
      refine ⟨by rw [hF]; rfl, ?_, ?_, rfl, rfl, rfl⟩ <;> (repeat' (first | exact rfl | exact trivial | exact cellM.refl _ | exact fun _ _ _ _ => cellM.refl _ | exact fun _ => ⟨rfl, fun _ _ _ _ => cellM.refl _⟩ | refine ⟨?_, ?_⟩ | fail))
      · exact wk
      · simp
      · exact st_app (x := h) rfl
    · dsimp only
      omega
  · have h3 : chB o n = false := h3
    rw [if_neg (ne_true_of_eq_false h3)] at hst
    refine W.region hT hHD5 rfl (by (repeat' (first | assumption | exact rfl | exact trivial | omega | (dsimp only; omega) | refine ⟨?_, ?_⟩ | intro _ | (simp_all; done) | fail))) ?_
    refine ⟨⟨k + 1, by omega⟩, [(0, some 0), (1, some 1), (2, some 2), (3, some 3), (4, some 4)], ?_, ?_⟩
    · dsimp only
      rw [hst]
      refine ⟨by rw [hF]; rfl, ?_, ?_, rfl, rfl, rfl⟩ <;> (repeat' (first | exact rfl | exact trivial | exact cellM.refl _ | exact fun _ _ _ _ => cellM.refl _ | exact fun _ => ⟨rfl, fun _ _ _ _ => cellM.refl _⟩ | refine ⟨?_, ?_⟩ | fail))
      exact wk
    · dsimp only
      omega

/-! ### Kind -/
def HD6 : List (Nat × FSpec) := [(18, spReadT)]
set_option maxRecDepth 100000 in
theorem hHD6 : GOK Try.prog HD6 := GOK.cons (enters Try.func18 rfl (by kernel_rfl)) readT_holds hG0
def spKind : FSpec
  | [.agg [.c (.sl nr 2 rt), .c (.sl nl 5 lk)], .agg [.c (.val (.int .i64 a)), .c (.val (.int .i64 b)), .c (.val (.int .i64 ca)), .c (.val (.int .i64 cb))]], [] =>
    some ⟨[nr ≤ 999, nl ≤ 998, rtOK nr rt, lkOK nl lk],
      .tup [(false, [.c (.val (.int .i64 (readV (rts nr rt) (lks nl lk) ⟨a, b, ca, cb⟩).kind))]), (false, [.c (.val (.int .i64 (readV (rts nr rt) (lks nl lk) ⟨a, b, ca, cb⟩).e))])], []⟩
  | _, _ => none
set_option maxRecDepth 100000 in
theorem kind_holds : Holds Try.prog 22 spKind := by
  refine Holds.of hT Try.func22 rfl 20 rfl fun args bs out h hc => ?_
  unfold spKind at h
  split at h
  rotate_left
  · cases h
  rename_i nr rt nl lk a b ca cb
  simp only [Option.some.injEq] at h
  subst h
  obtain ⟨hn1, hn2, hr, hl, _⟩ := hc
  refine ⟨by simp, by simp [Res.live], fun F hF => ?_⟩
  refine W.seqR hT hHD6 rfl (by (repeat' (first | assumption | exact rfl | exact trivial | omega | (dsimp only; omega) | refine ⟨?_, ?_⟩ | intro _ | (simp_all; done) | fail))) ?_
  refine W.seqR hT hHD6 rfl (by exact ⟨hn1, hn2, hr, hl, trivial⟩) ?_
  refine W.seqR hT hHD6 rfl (by (repeat' (first | assumption | exact rfl | exact trivial | omega | (dsimp only; omega) | refine ⟨?_, ?_⟩ | intro _ | (simp_all; done) | fail))) ?_
  refine W.ret ⟨_, [], rfl, rfl, ?_, ?_, rfl, rfl, rfl⟩ <;> (repeat' (first | exact rfl | exact trivial | exact cellM.refl _ | exact fun _ _ _ _ => cellM.refl _ | exact fun _ => ⟨rfl, fun _ _ _ _ => cellM.refl _⟩ | refine ⟨?_, ?_⟩ | fail))
end Go.Proofs.Ytahhejlpmacloaa

/- Plain laws: heights of a relation; what the ranking closure comes to. -/
namespace Go.Proofs.Ytahhejlpmacloaa
open Go Go.Eng

/-! ### the greatest of a list -/
def maxL (l : List Int) : Int := l.foldl max 0
theorem foldl_max (l : List Int) (m : Int) : m ≤ l.foldl max m ∧ (∀ x ∈ l, x ≤ l.foldl max m) ∧ (l.foldl max m = m ∨ l.foldl max m ∈ l) := by
  induction l generalizing m with
  | nil => exact ⟨Int.le_refl _, fun x hx => (by cases hx), .inl rfl⟩
  | cons y l ih =>
    obtain ⟨h1, h2, h3⟩ := ih (max m y)
    refine ⟨by simp only [List.foldl_cons]; omega, fun x hx => ?_, ?_⟩
    · rcases List.mem_cons.1 hx with rfl | hx
      · simp only [List.foldl_cons]; omega
      · exact h2 x hx
    · simp only [List.foldl_cons]
      rcases h3 with h3 | h3
      · rw [h3]
        by_cases h : m ≤ y
        · right; rw [Int.max_eq_right h]; exact List.mem_cons_self
        · left; omega
      · exact .inr (List.mem_cons_of_mem _ h3)
theorem maxL_congr {l l' : List Int} (h : ∀ x, x ∈ l ↔ x ∈ l') : maxL l = maxL l' := by
  obtain ⟨a1, a2, a3⟩ := foldl_max l 0
  obtain ⟨b1, b2, b3⟩ := foldl_max l' 0
  unfold maxL
  have h1 : l.foldl max 0 ≤ l'.foldl max 0 := by
    rcases a3 with h3 | h3
    · omega
    · exact b2 _ ((h _).1 h3)
  have h2 : l'.foldl max 0 ≤ l.foldl max 0 := by
    rcases b3 with h3 | h3
    · omega
    · exact a2 _ ((h _).2 h3)
  omega
theorem maxL_le {l : List Int} {b : Int} (h0 : 0 ≤ b) (h : ∀ x ∈ l, x ≤ b) : maxL l ≤ b := by
  rcases (foldl_max l 0).2.2 with h3 | h3
  · unfold maxL; omega
  · exact h _ h3
theorem maxL_nonneg (l : List Int) : 0 ≤ maxL l := (foldl_max l 0).1
theorem le_maxL {l : List Int} {x : Int} (h : x ∈ l) : x ≤ maxL l := (foldl_max l 0).2.1 x h

/-! ### heights -/
def IsHgt (G : RowsI) (f : Int → Int) : Prop := ∀ x, f x = maxL ((G [x]).map fun y => 1 + f y)
def Pot (G : RowsI) (p : Int → Nat) : Prop := (∀ x, p x ≤ 1000000) ∧ ∀ x, ∀ y ∈ G [x], p y < p x
open Classical in
noncomputable def hgtC (G : RowsI) : Int → Int := if h : ∃ f, IsHgt G f then Classical.choose h else fun _ => 0

def hgtN (G : RowsI) : Nat → Int → Int
  | 0, _ => 0
  | n + 1, x => maxL ((G [x]).map fun y => 1 + hgtN G n y)
theorem hgtN_more {G : RowsI} {p : Int → Nat} (hp : Pot G p) : ∀ (n m : Nat) (x : Int), p x < n → p x < m → hgtN G n x = hgtN G m x := by
  intro n
  induction n with
  | zero => intro m x h; omega
  | succ n ih =>
    intro m x h1 h2
    obtain ⟨m, rfl⟩ : ∃ k, m = k + 1 := ⟨m - 1, by omega⟩
    simp only [hgtN]
    congr 1
    refine List.map_congr_left fun y hy => ?_
    have := hp.2 x y hy
    rw [ih m y (by omega) (by omega)]
theorem hgt_exists {G : RowsI} {p : Int → Nat} (hp : Pot G p) : ∃ f, IsHgt G f := by
  refine ⟨fun x => hgtN G (p x + 1) x, fun x => ?_⟩
  show maxL ((G [x]).map fun y => 1 + hgtN G (p x) y) = _
  congr 1
  refine List.map_congr_left fun y hy => ?_
  have := hp.2 x y hy
  rw [hgtN_more hp (p x) (p y + 1) y (by omega) (by omega)]
theorem hgtC_is {G : RowsI} {p : Int → Nat} (hp : Pot G p) : IsHgt G (hgtC G) := by
  have h := hgt_exists hp
  unfold hgtC
  rw [dif_pos h]
  exact Classical.choose_spec h
theorem hgt_le {G : RowsI} {p : Int → Nat} {f : Int → Int} (hp : Pot G p) (hf : IsHgt G f) : ∀ (n : Nat) (x : Int), p x ≤ n → 0 ≤ f x ∧ f x ≤ p x := by
  intro n
  induction n with
  | zero =>
    intro x h
    refine ⟨by rw [hf]; exact maxL_nonneg _, ?_⟩
    rw [hf]
    refine maxL_le (by omega) fun z hz => ?_
    obtain ⟨y, hy, rfl⟩ := List.mem_map.1 hz
    have := hp.2 x y hy
    omega
  | succ n ih =>
    intro x h
    refine ⟨by rw [hf]; exact maxL_nonneg _, ?_⟩
    rw [hf]
    refine maxL_le (by omega) fun z hz => ?_
    obtain ⟨y, hy, rfl⟩ := List.mem_map.1 hz
    have h1 := hp.2 x y hy
    have := ih y (by omega)
    omega
theorem isHgt_congr {G G' : RowsI} {f : Int → Int} (h : ∀ x y, y ∈ G [x] ↔ y ∈ G' [x]) (hf : IsHgt G f) : IsHgt G' f := by
  intro x
  rw [hf x]
  refine maxL_congr fun z => ?_
  simp only [List.mem_map]
  exact ⟨fun ⟨y, hy, e⟩ => ⟨y, (h x y).1 hy, e⟩, fun ⟨y, hy, e⟩ => ⟨y, (h x y).2 hy, e⟩⟩

/-! ### the closure answers the height -/
def KnOK (f : Int → Int) (kn : AM) : Prop := kn.WF ∧ ∀ x v, kn.at? [x] = some v → v = f x
theorem knOK_0 (f : Int → Int) : KnOK f a0 := ⟨⟨List.nodup_nil, List.nodup_nil, fun e he => by cases he⟩, fun x v h => by cases h⟩
theorem rkN_ok {G : RowsI} {p : Int → Nat} {f : Int → Int} (hp : Pot G p) (hf : IsHgt G f) : ∀ (n : Nat) (kn : AM) (r : Int), p r < n → KnOK f kn → ∃ kn', rkN G n kn r = some (f r, kn') ∧ KnOK f kn' := by
  intro n
  induction n with
  | zero => intro kn r h; omega
  | succ n ih =>
    intro kn r hr hk
    rw [rkN]
    split
    · rename_i h
      refine ⟨kn, ?_, hk⟩
      rw [AM.has_eq] at h
      obtain ⟨v, hv⟩ := Option.isSome_iff_exists.1 h
      rw [AM.get_eq, hv, hk.2 r v hv]
      rfl
    · have key : ∀ (l : List Int) (kn : AM) (m : Int), (∀ y ∈ l, p y < n) → KnOK f kn → ∃ kn', rkL (rkN G n) kn l m = some ((l.map fun y => 1 + f y).foldl max m, kn') ∧ KnOK f kn' := by
        intro l
        induction l with
        | nil => exact fun kn m _ hk => ⟨kn, rfl, hk⟩
        | cons y l ihl =>
          intro kn m hy hk
          obtain ⟨kn1, h1, h2⟩ := ih kn y (hy y List.mem_cons_self) hk
          have hb := hgt_le hp hf (p y) y (Nat.le_refl _)
          have hpy := hp.1 y
          have hw : IntKind.i64.wrap (1 + f y) = 1 + f y := wi (by omega)
          simp only [rkL, h1, hw, List.map_cons, List.foldl_cons]
          exact ihl kn1 _ (fun z hz => hy z (List.mem_cons_of_mem _ hz)) h2
      obtain ⟨kn', h1, h2⟩ := key (G [r]) kn 0 (fun y hy => by have := hp.2 r y hy; omega) hk
      rw [h1]
      have hfr : (((G [r]).map fun y => 1 + f y).foldl max 0) = f r := (hf r).symm
      rw [hfr]
      refine ⟨kn'.set [r] (f r), rfl, h2.1.set _ _, fun x v hv => ?_⟩
      rw [AM.at_set h2.1] at hv
      split at hv
      · rename_i e
        injection e with e
        injection hv with hv
        rw [← hv, e]
      · exact h2.2 x v hv

/-! ### the relation that ranks follow -/
def turnC (a : AM) (G : RowsI) : RowsI := fun k => match k with
  | [y] => a.es.filterMap fun e => match e.k with
    | [z] => if y ∈ G [z] then some z else none
    | _ => none
  | _ => []
theorem turnC_mem {a : AM} {G : RowsI} {y z : Int} : z ∈ turnC a G [y] ↔ hasK a [z] ∧ y ∈ G [z] := by
  unfold turnC
  simp only [List.mem_filterMap]
  constructor
  · rintro ⟨e, he, h⟩
    split at h
    · rename_i z' hk
      split at h
      · rename_i hy
        injection h with h
        subst h
        exact ⟨⟨e, he, hk⟩, hy⟩
      · cases h
    · cases h
  · rintro ⟨⟨e, he, hk⟩, hy⟩
    refine ⟨e, he, ?_⟩
    rw [hk]
    simp [hy]
theorem turnOf_mem {a : AM} {G : RowsI} {x : BhS} (h : TurnOf a G x) (y z : Int) : z ∈ turnC a G [y] ↔ z ∈ x.G [y] := by
  rw [turnC_mem, h.mem]
  constructor
  · rintro ⟨h1, h2⟩
    exact ⟨y, rfl, h1, h2⟩
  · rintro ⟨y', hk, h1, h2⟩
    injection hk with hk
    subst hk
    exact ⟨h1, h2⟩
def aheadC (R : List (Int × Bool)) (L : List Lk) (c : Chg) : RowsI :=
  if ((readV R L c).kind == 1) = true then turnC (bhV (readV R L c).R (readV R L c).L (readV R L c).dirs).a (bhV (readV R L c).R (readV R L c).L (readV R L c).dirs).G else (bhV (readV R L c).R (readV R L c).L (readV R L c).dirs).G
def RankOK (R : List (Int × Bool)) (L : List Lk) (c : Chg) : Prop := ∃ p, Pot (aheadC R L c) p
/-- What Ranks answers: the list, the error. -/
noncomputable def ranksV (R : List (Int × Bool)) (L : List Lk) (c : Chg) : List (Int × Int) :=
  if ((readV R L c).e != 0) = true then [] else (ids R).map fun x => (x, hgtC (aheadC R L c) x)

/-! ### few keys -/
def BhK (L : List Lk) (s : BhS) : Prop := s.a.WF ∧ ∀ e ∈ s.a.es, ∃ y ∈ endsL L, e.k = [y]
theorem bhK_step {L : List Lk} {m : AM} {f t h d : Int} {s : BhS} {e : Tri} (hs : BhK L s) (he : e.x ∈ endsL L) : BhK L (bhStep m f t h d s e) := by
  unfold bhStep
  split
  · refine ⟨hs.1.setR _, fun e' he' => ?_⟩
    have : hasK (s.a.setR [e.x]) e'.k := ⟨e', he', rfl⟩
    rcases hasK_setR.1 this with h | ⟨e2, h2, h3⟩
    · exact ⟨_, he, h⟩
    · rw [← h3]; exact hs.2 e2 h2
  · exact hs
theorem tris_x {L : List Lk} {l : Lk} (hl : l ∈ L) : ∀ e ∈ tris l, e.x ∈ endsL L := by
  intro e he
  refine List.mem_flatMap.2 ⟨l, hl, ?_⟩
  simp only [tris, List.mem_cons, List.not_mem_nil, or_false] at he
  rcases he with rfl | rfl
  · simp
  · simp
theorem bhK_V (R : List (Int × Bool)) (L : List Lk) (H : List (Int × Int)) : BhK L (bhV R L H) := by
  refine fold_inv (BhK L) (fun s p _ hs => ?_) ⟨⟨List.nodup_nil, List.nodup_nil, fun e he => by cases he⟩, fun e he => by cases he⟩
  unfold bhH
  split
  · refine fold_inv (BhK L) (fun s r _ hs => ?_) hs
    refine fold_inv (BhK L) (fun s l hl hs => ?_) hs
    exact fold_inv (BhK L) (fun s e he hs => bhK_step hs (tris_x hl e he)) hs
  · exact hs
theorem bhV_len (R : List (Int × Bool)) (L : List Lk) (H : List (Int × Int)) : (bhV R L H).a.es.length ≤ 2 * L.length ∧ ∀ k, ((bhV R L H).G k).length ≤ 2 * L.length := by
  refine ⟨?_, fun k => bhOK_len (fold_inv (BhOK L) (fun _ _ _ hs => bhOK_H hs) (bhOK_0 L)) k⟩
  obtain ⟨h1, h2⟩ := bhK_V R L H
  have := nodup_le (l := (bhV R L H).a.es.map (·.k)) (l' := (endsL L).map fun y => [y]) h1.keys (fun x hx => by
    obtain ⟨e, he, rfl⟩ := List.mem_map.1 hx
    obtain ⟨y, hy, hk⟩ := h2 e he
    exact List.mem_map.2 ⟨y, hy, hk.symm⟩)
  rw [List.length_map, List.length_map, endsL_length] at this
  exact this
end Go.Proofs.Ytahhejlpmacloaa
