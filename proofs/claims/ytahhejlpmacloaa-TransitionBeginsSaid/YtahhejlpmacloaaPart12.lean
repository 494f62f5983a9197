/- The walks of a tape's making and of a drawn topology. -/
import Derived.Test.YtahhejlpmacloaaPart11
import Derived.Test.YtahhejlpmacloaaPart09
namespace Go.Proofs.Ytahhejlpmacloaa
open Go Go.Eng

def spNew : FSpec
  | [.one (.c (.sl n 1 get))], [] => some ⟨[], .one (.ptr 0 0), [(0, tapeB (min n 600) get 0)]⟩
  | _, _ => none

theorem new_holds : Holds Try.prog 4 spNew := by
  refine Holds.of hT Try.func4 rfl 11 rfl fun args bs out h hc => ?_
  unfold spNew at h
  split at h
  · rename_i n get
    simp only [Option.some.injEq] at h
    subst h
    refine ⟨by simp, by simp [Res.live], fun F hF => ?_⟩
    refine W.seqR hT hG0 rfl trivial ?_
    refine W.seq (W.seqR hT hG0 rfl ⟨rfl, trivial⟩ (W.cond rfl (fun h1 => ?_) (fun h1 => W.skip ?_)))
    · have h1 : (n : Int) > 600 := of_decide_eq_true h1
      refine W.region hT hG0 rfl ⟨by omega, by omega, by omega, trivial⟩ ?_
      refine W.seqR hT hG0 rfl trivial ?_
      refine W.ret ⟨_, [(0, some 144)], rfl, rfl, ⟨⟨rfl, rfl⟩, trivial⟩, ⟨⟨rfl, ⟨?_, rfl, fun i _ j _ => ?_⟩, rfl, trivial⟩, trivial⟩, rfl, rfl, rfl⟩
      · show 600 = min n 600
        omega
      · show cellM (get (Int.toNat 0 + i) j) (get i j)
        rw [show Int.toNat 0 + i = i from Nat.zero_add i]
        exact cellM.refl _
    · have h1 : ¬ (n : Int) > 600 := of_decide_eq_false h1
      refine W.seqR hT hG0 rfl trivial ?_
      refine W.ret ⟨_, [(0, some 96)], rfl, rfl, ⟨⟨rfl, rfl⟩, trivial⟩, ⟨⟨rfl, ⟨?_, rfl, fun i _ j _ => cellM.refl _⟩, rfl, trivial⟩, trivial⟩, rfl, rfl, rfl⟩
      show n = min n 600
      omega
  · cases h

/-! ### a drawn topology -/
def aC1 (sel : Int) (skip : Bool) (a : Int) : Bool := if (a == sel) = true then !skip else false
def aAt (n : Nat) (sel : Int) (skip : Bool) (a : Int) (at_ : Int) : Int := if (!aC1 sel skip a) = true then rawA n at_ else at_
def aStep (n : Nat) (get : Nat → Nat → Cell) (cost b sel : Int) (skip : Bool) (a : Int) (x : Int × List Lk) : Int × List Lk :=
  if (if aC1 sel skip a = true then true else oneV n get x.1 3) = true then
    (rawA n (rawA n (rawA n (aAt n sel skip a x.1))), x.2 ++ [⟨a, b, rangeV n get (aAt n sel skip a x.1) 1 cost, rangeV n get (rawA n (aAt n sel skip a x.1)) 1 cost, cut (rawV n get (rawA n (rawA n (aAt n sel skip a x.1)))) 4⟩])
  else (aAt n sel skip a x.1, x.2)

def aLoop (n : Nat) (get : Nat → Nat → Cell) (cost b sel : Int) (skip : Bool) : Nat → Int × List Lk → Int × List Lk
  | 0, x => x
  | j + 1, x => aStep n get cost b sel skip ((j : Int) + 1) (aLoop n get cost b sel skip j x)

def bStep (n : Nat) (get : Nat → Nat → Cell) (cost b : Int) (x : Int × List Lk) : Int × List Lk :=
  aLoop n get cost b (rangeV n get x.1 1 (b - 1)) (oneV n get (rawA n x.1) 9) (b - 1).toNat (rawA n (rawA n x.1), x.2)

def bLoop (n : Nat) (get : Nat → Nat → Cell) (cost : Int) : Nat → Int × List Lk → Int × List Lk
  | 0, x => x
  | j + 1, x => bStep n get cost ((j : Int) + 2) (bLoop n get cost j x)

def costsG : Nat → Nat → Cell := cellAt [.val (.int .i64 1), .val (.int .i64 2), .val (.int .i64 2), .val (.int .i64 5)] 1
def topoN (n : Nat) (get : Nat → Nat → Cell) (at_ m : Int) : Int := rangeV n get at_ 1 m
def topoCost (n : Nat) (get : Nat → Nat → Cell) (at_ : Int) : Int := pickV n get (rawA n at_) 4 costsG
def topoX (n : Nat) (get : Nat → Nat → Cell) (at_ m : Int) : Int × List Lk := bLoop n get (topoCost n get at_) (topoN n get at_ m - 1).toNat (rawA n (rawA n at_), [])
def rtG (i j : Nat) : Cell := match j with
  | 0 => .val (.int .i64 ((i : Int) + 1))
  | _ => .val (.bool true)

theorem rangeV_in {n : Nat} {get : Nat → Nat → Cell} {at_ lo hi : Int} (h : lo ≤ hi) (h0 : 0 ≤ lo) (h1 : hi ≤ 1000000) : lo ≤ rangeV n get at_ lo hi ∧ rangeV n get at_ lo hi ≤ hi := by
  unfold rangeV
  rw [wi (n := hi - lo) (by omega), wi (n := hi - lo + 1) (by omega)]
  have := cut_range (rawV n get at_) (n := hi - lo + 1) (by omega) (by omega)
  rw [wi (by omega)]
  omega

theorem pickCost_in {n : Nat} {get : Nat → Nat → Cell} {at_ : Int} : 1 ≤ pickV n get at_ 4 costsG ∧ pickV n get at_ 4 costsG ≤ 5 := by
  unfold pickV
  have := cut_range (rawV n get at_) (n := (4 : Nat)) (by omega) (by omega)
  have h4 : (cut (rawV n get at_) ((4 : Nat) : Int)).toNat < 4 := by omega
  match (cut (rawV n get at_) ((4 : Nat) : Int)).toNat, h4 with
  | 0, _ => decide
  | 1, _ => decide
  | 2, _ => decide
  | 3, _ => decide

theorem aAt_nonneg {n : Nat} {sel : Int} {skip : Bool} {a at_ : Int} (h : 0 ≤ at_) : 0 ≤ aAt n sel skip a at_ := by
  unfold aAt
  split
  · exact rawA_nonneg h
  · exact h

theorem aStep_or (n : Nat) (get : Nat → Nat → Cell) (cost b sel : Int) (skip : Bool) (a : Int) (x : Int × List Lk) :
    aStep n get cost b sel skip a x = (rawA n (rawA n (rawA n (aAt n sel skip a x.1))), x.2 ++ [⟨a, b, rangeV n get (aAt n sel skip a x.1) 1 cost, rangeV n get (rawA n (aAt n sel skip a x.1)) 1 cost, cut (rawV n get (rawA n (rawA n (aAt n sel skip a x.1)))) 4⟩]) ∨
    aStep n get cost b sel skip a x = (aAt n sel skip a x.1, x.2) := by
  unfold aStep
  generalize (if aC1 sel skip a = true then true else oneV n get x.1 3) = t
  cases t
  · exact .inr (if_neg (by simp))
  · exact .inl (if_pos rfl)

theorem aLoop_at {n : Nat} {get : Nat → Nat → Cell} {cost b sel : Int} {skip : Bool} : ∀ {j : Nat} {x : Int × List Lk}, 0 ≤ x.1 → 0 ≤ (aLoop n get cost b sel skip j x).1
  | 0, _, h => h
  | j + 1, x, h => by
    have h1 := aAt_nonneg (n := n) (sel := sel) (skip := skip) (a := (j : Int) + 1) (aLoop_at (n := n) (get := get) (cost := cost) (b := b) (sel := sel) (skip := skip) (j := j) h)
    simp only [aLoop]
    rcases aStep_or n get cost b sel skip ((j : Int) + 1) (aLoop n get cost b sel skip j x) with e | e <;> rw [e]
    · exact rawA_nonneg (rawA_nonneg (rawA_nonneg h1))
    · exact h1

theorem aLoop_len {n : Nat} {get : Nat → Nat → Cell} {cost b sel : Int} {skip : Bool} : ∀ {j : Nat} {x : Int × List Lk}, (aLoop n get cost b sel skip j x).2.length ≤ x.2.length + j
  | 0, _ => Nat.le_refl _
  | j + 1, x => by
    have := aLoop_len (n := n) (get := get) (cost := cost) (b := b) (sel := sel) (skip := skip) (j := j) (x := x)
    simp only [aLoop]
    rcases aStep_or n get cost b sel skip ((j : Int) + 1) (aLoop n get cost b sel skip j x) with e | e <;> rw [e]
    · simp; omega
    · simp only []; omega

theorem bLoop_at {n : Nat} {get : Nat → Nat → Cell} {cost : Int} : ∀ {j : Nat} {x : Int × List Lk}, 0 ≤ x.1 → 0 ≤ (bLoop n get cost j x).1
  | 0, _, h => h
  | _ + 1, _, h => aLoop_at (rawA_nonneg (rawA_nonneg (bLoop_at h)))

theorem bLoop_len {n : Nat} {get : Nat → Nat → Cell} {cost : Int} : ∀ {j : Nat} {x : Int × List Lk}, (bLoop n get cost j x).2.length ≤ x.2.length + j * (j + 1)
  | 0, _ => by simp [bLoop]
  | j + 1, x => by
    have h1 := bLoop_len (n := n) (get := get) (cost := cost) (j := j) (x := x)
    have h2 := aLoop_len (n := n) (get := get) (cost := cost) (b := (j : Int) + 2) (sel := rangeV n get (bLoop n get cost j x).1 1 ((j : Int) + 2 - 1)) (skip := oneV n get (rawA n (bLoop n get cost j x).1) 9) (j := ((j : Int) + 2 - 1).toNat)
      (x := (rawA n (rawA n (bLoop n get cost j x).1), (bLoop n get cost j x).2))
    simp only [bLoop, bStep]
    simp only at h2
    have h3 : (j + 1) * (j + 1 + 1) = j * (j + 1) + 2 * (j + 1) := by
      rw [Nat.add_mul, Nat.mul_add, Nat.mul_add]; omega
    omega

def G3 : List (Nat × FSpec) := (16, spOrder) :: (12, spRange) :: (14, spOne) :: (13, spPick) :: G2
theorem hG3 : GOK Try.prog G3 := GOK.cons (enters Try.func16 rfl (by kernel_rfl)) order_holds (GOK.cons (enters Try.func12 rfl (by kernel_rfl)) range_holds (GOK.cons (enters Try.func14 rfl (by kernel_rfl)) one_holds
  (GOK.cons (enters Try.func13 rfl (by kernel_rfl)) pick_holds hG2)))

def spTopo : FSpec
  | [.one (.ptr 0 0), .one (.c (.val (.int .i64 m))), .one (.c (.val (.int .i64 0)))], [.box 44 [.c (.sl n 1 get), .c (.val (.int .i64 at_))]] =>
    some ⟨[tapeC n get at_, 1 ≤ m ∧ m ≤ 20], .agg [.own 1, .own 2], [(0, .box 44 [.c (.sl n 1 get), .c (.val (.int .i64 (topoX n get at_ m).1))]), (1, .row 47 2 (topoN n get at_ m).toNat rtG),
      (2, .row 52 5 (topoX n get at_ m).2.length (lkG (orderL (topoX n get at_ m).2)))]⟩
  | _, _ => none

theorem tapeC_next {n : Nat} {get : Nat → Nat → Cell} {at_ : Int} (h : tapeC n get at_) : tapeC n get (rawA n at_) := ⟨h.1, rawA_nonneg h.2.1, h.2.2⟩

theorem rt_cell (j : Nat) {cs : List Cell} (hx : cs = [.val (.int .i64 ((j : Int) + 1)), .val (.bool true)]) : ∀ i, i < j + 1 → ∀ k, k < 2 → cellM (joinGet j rtG (cellAt cs 2) i k) (rtG i k) := by
  intro i hi k hk
  subst hx
  unfold joinGet
  split
  · exact cellM.refl _
  · obtain rfl : i = j := by omega
    rw [Nat.sub_self]
    match k, hk with
    | 0, _ => rfl
    | 1, _ => rfl

theorem lk_cell {L : List Lk} {x : Lk} {cs : List Cell} (hx : cs = [.val (.int .i64 x.a), .val (.int .i64 x.b), .val (.int .i64 x.ca), .val (.int .i64 x.cb), .val (.int .i64 x.cap)]) :
    ∀ i, i < (L ++ [x]).length → ∀ j, j < 5 → cellM (joinGet L.length (lkG L) (cellAt cs 5) i j) (lkG (L ++ [x]) i j) := by
  intro i hi j hj
  subst hx
  simp at hi
  unfold joinGet lkG
  split
  · rename_i h
    have : lkAt (L ++ [x]) i = lkAt L i := by simp [lkAt, List.getElem?_append, h]
    rw [this]
    exact cellM.refl _
  · obtain rfl : i = L.length := by omega
    have : lkAt (L ++ [x]) L.length = x := by simp [lkAt]
    rw [Nat.sub_self, this]
    match j, hj with
    | 0, _ => rfl
    | 1, _ => rfl
    | 2, _ => rfl
    | 3, _ => rfl
    | 4, _ => rfl

theorem lks_lkG (L : List Lk) : lks L.length (lkG L) = L := by
  apply List.ext_getElem
  · simp [lks]
  · intro i h1 h2
    simp [lks, lkG, cellI, Lk.fld, lkAt, h2]

theorem costs_isI : ∀ i, i < 4 → isI (costsG i 0)
  | 0, _ => rfl
  | 1, _ => rfl
  | 2, _ => rfl
  | 3, _ => rfl

def tA (n : Nat) (get : Nat → Nat → Cell) (at1 nR : Int) (j : Nat) : St :=
  ⟨[(0, .one (.ptr 0 0)), (2, iv 0), (6, .one (.ptr 1 0)), (7, .one (.ptr 2 0)), (8, iv nR), (9, iv ((j : Int) + 1))], [(0, tapeB n get at1), (1, .box 28 [.nil, .nil]), (2, .box 28 [.own 3, .nil]), (3, .row 47 2 j rtG)]⟩
def tB (n : Nat) (get : Nat → Nat → Cell) (nR cost : Int) (j : Nat) (x : Int × List Lk) : St :=
  ⟨[(0, .one (.ptr 0 0)), (2, iv 0), (6, .one (.ptr 1 0)), (7, .one (.ptr 2 0)), (8, iv nR), (10, iv cost), (11, iv ((j : Int) + 2))],
    [(0, tapeB n get x.1), (1, .box 28 [.nil, .nil]), (2, .box 28 [.own 3, .own 4]), (3, .row 47 2 nR.toNat rtG), (4, .row 52 5 x.2.length (lkG x.2))]⟩
def tC (n : Nat) (get : Nat → Nat → Cell) (nR cost b sel : Int) (skip : Bool) (i : Nat) (x : Int × List Lk) : St :=
  ⟨[(0, .one (.ptr 0 0)), (2, iv 0), (6, .one (.ptr 1 0)), (7, .one (.ptr 2 0)), (8, iv nR), (10, iv cost), (11, iv b), (12, iv sel), (13, bv skip), (14, iv ((i : Int) + 1))],
    [(0, tapeB n get x.1), (1, .box 28 [.nil, .nil]), (2, .box 28 [.own 3, .own 4]), (3, .row 47 2 nR.toNat rtG), (4, .row 52 5 x.2.length (lkG x.2))]⟩

set_option maxHeartbeats 2000000 in
theorem topo_holds : Holds Try.prog 5 spTopo := by
  refine Holds.of hT Try.func5 rfl 196 rfl fun args bs out h hc => ?_
  unfold spTopo at h
  split at h
  · rename_i m n get at_
    simp only [Option.some.injEq] at h
    subst h
    obtain ⟨hc1, ⟨hm1, hm2⟩, _⟩ := hc
    refine ⟨by simp, by simp [Res.live], fun F hF => ?_⟩
    refine W.seqR hT hG3 rfl trivial ?_
    refine W.seqR hT hG3 rfl trivial ?_
    refine W.seqR hT hG3 rfl ⟨hc1, trivial⟩ ?_
    obtain ⟨hI, h0, hn6⟩ := hc1
    have hR := rangeV_in (n := n) (get := get) (at_ := at_) hm1 (by omega) (by omega)
    generalize hnR : topoN n get at_ m = nR
    have hnR' : rangeV n get at_ 1 m = nR := hnR
    rw [hnR'] at hR
    refine W.seq (W.seqR hT hG3 rfl trivial ?_)
    refine W.block (W.loop (γ := { j : Nat // j ≤ nR.toNat }) (fun j => tA n get (rawA n at_) nR j.1) 4 (fun j => nR.toNat - j.1) ⟨0, Nat.zero_le _⟩ [(0, some 0), (1, some 1), (2, some 17), (3, none)] ?_ ?_)
    · exact ⟨by rw [hF]; rfl, ⟨⟨rfl, rfl⟩, rfl, ⟨rfl, rfl⟩, ⟨rfl, rfl⟩, congrArg (Value.int .i64) hnR', rfl, trivial⟩, ⟨⟨rfl, cellM.refl _, rfl, trivial⟩, ⟨rfl, trivial, trivial, trivial⟩, ⟨rfl, rfl, trivial, trivial⟩, rfl, trivial⟩, rfl, rfl, rfl⟩
    rintro ⟨j, hj⟩
    refine W.seq (W.seqR hT hG3 rfl ⟨rfl, trivial⟩ (W.cond rfl (fun h1 => W.skip ?_) (fun h1 => W.exit ?_)))
    · have h1 : (j : Int) + 1 ≤ nR := of_decide_eq_true h1
      refine W.seq (W.block (W.region hT hG3 rfl ⟨?_, ?_, trivial⟩ ?_))
      · show j + 1 ≤ 9223372036854775807
        omega
      · show (j + 1) * 16 ≤ 140737488355328
        omega
      refine W.region hT hG3 rfl ⟨rfl, trivial⟩ ?_
      refine ⟨⟨j + 1, by omega⟩, [(0, some 0), (1, some 1), (2, some 2), (3, some 132)], ⟨by rw [hF]; rfl, ⟨⟨rfl, rfl⟩, rfl, ⟨rfl, rfl⟩, ⟨rfl, rfl⟩, rfl, ?_, trivial⟩, ⟨⟨rfl, cellM.refl _, rfl, trivial⟩, ⟨rfl, trivial, trivial, trivial⟩, ⟨rfl, rfl, trivial, trivial⟩, ⟨rfl, rfl, rfl, rt_cell j rfl⟩, trivial⟩, rfl, rfl, rfl⟩, ?_⟩
      · show Value.int .i64 (IntKind.i64.wrap ((j : Int) + 1 + 1)) = Value.int .i64 (((j + 1 : Nat) : Int) + 1)
        rw [wi (by omega)]
        rfl
      · show nR.toNat - (j + 1) < nR.toNat - j
        omega
    · have h1 : ¬ (j : Int) + 1 ≤ nR := of_decide_eq_false h1
      have hj : j = nR.toNat := by omega
      subst hj
      have hC := tapeC_next (n := n) (get := get) (at_ := at_) ⟨hI, h0, hn6⟩
      refine W.seqR hT hG3 rfl ⟨hC, ⟨by omega, by omega, costs_isI⟩, trivial⟩ ?_
      refine W.seq (W.seqR hT hG3 rfl trivial ?_)
      have hcost := pickCost_in (n := n) (get := get) (at_ := rawA n at_)
      generalize hco : topoCost n get at_ = cost
      have hco' : pickV n get (rawA n at_) 4 costsG = cost := hco
      rw [hco'] at hcost
      refine W.block (W.loop (γ := { j : Nat // j ≤ (nR - 1).toNat }) (fun j => tB n get nR cost j.1 (bLoop n get cost j.1 (rawA n (rawA n at_), []))) 5 (fun j => nR.toNat - j.1) ⟨0, Nat.zero_le _⟩ [(0, some 0), (1, some 1), (2, some 2), (3, some 3), (4, none)] ?_ ?_)
      · exact ⟨by rw [hF]; rfl, ⟨⟨rfl, rfl⟩, rfl, ⟨rfl, rfl⟩, ⟨rfl, rfl⟩, rfl, congrArg (Value.int .i64) hco', rfl, trivial⟩, ⟨⟨rfl, cellM.refl _, rfl, trivial⟩, ⟨rfl, trivial, trivial, trivial⟩, ⟨rfl, rfl, rfl, trivial⟩, ⟨rfl, rfl, rfl, fun _ _ _ _ => cellM.refl _⟩, rfl, trivial⟩, rfl, rfl, rfl⟩
      rintro ⟨j, hj⟩
      generalize hx : bLoop n get cost j (rawA n (rawA n at_), []) = x
      have hx0 : 0 ≤ x.1 := by rw [← hx]; exact bLoop_at (rawA_nonneg (rawA_nonneg h0))
      have hxl : x.2.length ≤ j * (j + 1) := by
        have := bLoop_len (n := n) (get := get) (cost := cost) (j := j) (x := (rawA n (rawA n at_), []))
        rw [hx] at this
        simpa using this
      have hxl' : x.2.length ≤ 420 := Nat.le_trans hxl (Nat.mul_le_mul (show j ≤ 20 by omega) (show j + 1 ≤ 21 by omega))
      refine W.cut (ρ := [(0, some 0), (1, some 1), (2, some 2), (3, some 3), (4, some 4)]) (nx' := 5) (t := tB n get nR cost j x) ?_ ?_
      · rw [← hx]
        exact ⟨by rw [hF]; rfl, ⟨⟨rfl, rfl⟩, rfl, ⟨rfl, rfl⟩, ⟨rfl, rfl⟩, rfl, rfl, rfl, trivial⟩, ⟨⟨rfl, cellM.refl _, rfl, trivial⟩, ⟨rfl, trivial, trivial, trivial⟩, ⟨rfl, rfl, rfl, trivial⟩, ⟨rfl, rfl, rfl, fun _ _ _ _ => cellM.refl _⟩, ⟨rfl, rfl, rfl, fun _ _ _ _ => cellM.refl _⟩, trivial⟩, rfl, rfl, rfl⟩
      refine W.seq (W.seqR hT hG3 rfl ⟨rfl, trivial⟩ (W.cond rfl (fun h2 => W.skip ?_) (fun h2 => W.exit ?_)))
      · have h2 : (j : Int) + 2 ≤ nR := of_decide_eq_true h2
        refine W.seq (W.block ?_)
        have hC : tapeC n get x.1 := ⟨hI, hx0, hn6⟩
        have hC1 := tapeC_next hC
        have hC2 := tapeC_next hC1
        refine W.seqR hT hG3 rfl ⟨rfl, hC, trivial⟩ ?_
        refine W.seqR hT hG3 rfl ⟨hC1, trivial⟩ ?_
        refine W.seqR hT hG3 rfl trivial ?_
        have hw1 : IntKind.i64.wrap ((j : Int) + 2 - 1) = (j : Int) + 2 - 1 := wi (by omega)
        generalize hsel : rangeV n get x.1 1 ((j : Int) + 2 - 1) = sel
        generalize hskip : oneV n get (rawA n x.1) 9 = skip
        have hsel' : rangeV n get x.1 1 (IntKind.i64.wrap ((j : Int) + 2 - 1)) = sel := by rw [hw1]; exact hsel
        refine W.block (W.loop (γ := { i : Nat // i ≤ j + 1 }) (fun i => tC n get nR cost ((j : Int) + 2) sel skip i.1 (aLoop n get cost ((j : Int) + 2) sel skip i.1 (rawA n (rawA n x.1), x.2))) 5 (fun i => j + 1 - i.1) ⟨0, Nat.zero_le _⟩ [(0, some 0), (1, some 1), (2, some 2), (3, some 3), (4, some 4)] ?_ ?_)
        · exact ⟨by rw [hF]; rfl, ⟨⟨rfl, rfl⟩, rfl, ⟨rfl, rfl⟩, ⟨rfl, rfl⟩, rfl, rfl, rfl, congrArg (Value.int .i64) hsel', rfl, rfl, trivial⟩,
            ⟨⟨rfl, cellM.refl _, rfl, trivial⟩, ⟨rfl, trivial, trivial, trivial⟩, ⟨rfl, rfl, rfl, trivial⟩, ⟨rfl, rfl, rfl, fun _ _ _ _ => cellM.refl _⟩, ⟨rfl, rfl, rfl, fun _ _ _ _ => cellM.refl _⟩, trivial⟩, rfl, rfl, rfl⟩
        rintro ⟨i, hi⟩
        generalize hy : aLoop n get cost ((j : Int) + 2) sel skip i (rawA n (rawA n x.1), x.2) = y
        have hy0 : 0 ≤ y.1 := by rw [← hy]; exact aLoop_at (rawA_nonneg (rawA_nonneg hx0))
        have hyl : y.2.length ≤ 441 := by
          have := aLoop_len (n := n) (get := get) (cost := cost) (b := (j : Int) + 2) (sel := sel) (skip := skip) (j := i) (x := (rawA n (rawA n x.1), x.2))
          rw [hy] at this
          simp only at this
          omega
        have hD : tapeC n get y.1 := ⟨hI, hy0, hn6⟩
        have hD1 := tapeC_next hD
        refine W.cut (ρ := [(0, some 0), (1, some 1), (2, some 2), (3, some 3), (4, some 4)]) (nx' := 5) (t := tC n get nR cost ((j : Int) + 2) sel skip i y) ?_ ?_
        · rw [← hy]
          exact ⟨by rw [hF]; rfl, ⟨⟨rfl, rfl⟩, rfl, ⟨rfl, rfl⟩, ⟨rfl, rfl⟩, rfl, rfl, rfl, rfl, rfl, rfl, trivial⟩, ⟨⟨rfl, cellM.refl _, rfl, trivial⟩, ⟨rfl, trivial, trivial, trivial⟩, ⟨rfl, rfl, rfl, trivial⟩, ⟨rfl, rfl, rfl, fun _ _ _ _ => cellM.refl _⟩, ⟨rfl, rfl, rfl, fun _ _ _ _ => cellM.refl _⟩, trivial⟩, rfl, rfl, rfl⟩
        refine W.seq (W.seqR hT hG3 rfl ⟨rfl, trivial⟩ (W.cond rfl (fun h3 => W.skip ?_) (fun h3 => W.exit ?_)))
        · have h3 : (i : Int) + 1 < (j : Int) + 2 := of_decide_eq_true h3
          have hD0 : tapeC n get (aAt n sel skip ((i : Int) + 1) y.1) := ⟨hI, aAt_nonneg hy0, hn6⟩
          have hi1 : Value.int .i64 (IntKind.i64.wrap ((i : Int) + 1 + 1)) = Value.int .i64 (((i + 1 : Nat) : Int) + 1) := by
            rw [wi (by omega)]
            rfl
          refine W.seq (W.block (W.seqR hT hG3 rfl ⟨rfl, fun _ => trivial, fun h => ⟨h, trivial⟩, fun h => h, fun _ => rfl, fun _ => trivial, fun h => ⟨h, hD, trivial⟩, rfl, rfl, fun _ => rfl, fun h => by rw [h]; rfl, trivial⟩ (W.cond rfl (fun h4 => ?_) (fun h4 => W.skip ?_))))
          · refine W.regionDraw hT hG3 rfl rfl hmix ⟨hD0, tapeC_next hD0, tapeC_next (tapeC_next hD0), ?_, ?_, trivial⟩ ?_
            · show y.2.length + 1 ≤ 9223372036854775807
              omega
            · show (y.2.length + 1) * 40 ≤ 140737488355328
              omega
            have hs : aLoop n get cost ((j : Int) + 2) sel skip (i + 1) (rawA n (rawA n x.1), x.2) = (rawA n (rawA n (rawA n (aAt n sel skip ((i : Int) + 1) y.1))), y.2 ++ [⟨(i : Int) + 1, (j : Int) + 2, rangeV n get (aAt n sel skip ((i : Int) + 1) y.1) 1 cost, rangeV n get (rawA n (aAt n sel skip ((i : Int) + 1) y.1)) 1 cost, cut (rawV n get (rawA n (rawA n (aAt n sel skip ((i : Int) + 1) y.1)))) 4⟩]) := by
              simp only [aLoop, hy]
              exact if_pos h4
            refine W.region hT hG3 rfl ⟨rfl, trivial⟩ ?_
            refine ⟨⟨i + 1, by omega⟩, [(0, some 0), (1, some 1), (2, some 2), (3, some 3), (4, some 453)], ?_, ?_⟩
            · simp only
              rw [hs]
              refine ⟨by rw [hF]; rfl, ⟨⟨rfl, rfl⟩, rfl, ⟨rfl, rfl⟩, ⟨rfl, rfl⟩, rfl, rfl, rfl, rfl, rfl, hi1, trivial⟩, ⟨⟨rfl, cellM.refl _, rfl, trivial⟩, ⟨rfl, trivial, trivial, trivial⟩, ⟨rfl, rfl, rfl, trivial⟩, ⟨rfl, rfl, rfl, fun _ _ _ _ => cellM.refl _⟩, ⟨rfl, rfl, ?_, lk_cell rfl⟩, trivial⟩, rfl, rfl, rfl⟩
              show y.2.length + 1 = (y.2 ++ [_]).length
              simp
            · show j + 1 - (i + 1) < j + 1 - i
              omega
          · have hs : aLoop n get cost ((j : Int) + 2) sel skip (i + 1) (rawA n (rawA n x.1), x.2) = (aAt n sel skip ((i : Int) + 1) y.1, y.2) := by
              simp only [aLoop, hy]
              exact if_neg (by rw [show (if aC1 sel skip ((i : Int) + 1) = true then true else oneV n get y.1 3) = false from h4]; simp)
            refine W.region hT hG3 rfl ⟨rfl, trivial⟩ ?_
            refine ⟨⟨i + 1, by omega⟩, [(0, some 0), (1, some 1), (2, some 2), (3, some 3), (4, some 4)], ?_, ?_⟩
            · simp only
              rw [hs]
              exact ⟨by rw [hF]; rfl, ⟨⟨rfl, rfl⟩, rfl, ⟨rfl, rfl⟩, ⟨rfl, rfl⟩, rfl, rfl, rfl, rfl, rfl, hi1, trivial⟩, ⟨⟨rfl, cellM.refl _, rfl, trivial⟩, ⟨rfl, trivial, trivial, trivial⟩, ⟨rfl, rfl, rfl, trivial⟩, ⟨rfl, rfl, rfl, fun _ _ _ _ => cellM.refl _⟩, ⟨rfl, rfl, rfl, fun _ _ _ _ => cellM.refl _⟩, trivial⟩, rfl, rfl, rfl⟩
            · show j + 1 - (i + 1) < j + 1 - i
              omega
        · have h3 : ¬ (i : Int) + 1 < (j : Int) + 2 := of_decide_eq_false h3
          obtain rfl : i = j + 1 := by omega
          have hs : bLoop n get cost (j + 1) (rawA n (rawA n at_), []) = y := by
            simp only [bLoop, hx]
            unfold bStep
            rw [hsel, hskip, show ((j : Int) + 2 - 1).toNat = j + 1 from by omega]
            exact hy
          refine W.region hT hG3 rfl ⟨rfl, trivial⟩ ?_
          refine ⟨⟨j + 1, by omega⟩, [(0, some 0), (1, some 1), (2, some 2), (3, some 3), (4, some 4)], ?_, ?_⟩
          · simp only
            rw [hs]
            refine ⟨by rw [hF]; rfl, ⟨⟨rfl, rfl⟩, rfl, ⟨rfl, rfl⟩, ⟨rfl, rfl⟩, rfl, rfl, ?_, trivial⟩, ⟨⟨rfl, cellM.refl _, rfl, trivial⟩, ⟨rfl, trivial, trivial, trivial⟩, ⟨rfl, rfl, rfl, trivial⟩, ⟨rfl, rfl, rfl, fun _ _ _ _ => cellM.refl _⟩, ⟨rfl, rfl, rfl, fun _ _ _ _ => cellM.refl _⟩, trivial⟩, rfl, rfl, rfl⟩
            show Value.int .i64 (IntKind.i64.wrap ((j : Int) + 2 + 1)) = Value.int .i64 (((j + 1 : Nat) : Int) + 2)
            rw [wi (by omega), show (j : Int) + 2 + 1 = ((j + 1 : Nat) : Int) + 2 from by omega]
          · show nR.toNat - (j + 1) < nR.toNat - j
            omega
      · have h2 : ¬ (j : Int) + 2 ≤ nR := of_decide_eq_false h2
        refine W.seqR hT hG3 rfl ⟨by omega, fun _ _ _ _ => rfl, trivial⟩ ?_
        refine W.seq (W.seqR hT hG3 rfl ⟨rfl, fun _ => trivial, fun _ => trivial, fun h => ⟨h, h, ⟨hI, hx0, hn6⟩, trivial⟩, rfl, rfl, fun h => h, fun _ => rfl, trivial⟩ (W.cond rfl (fun h5 => ?_) (fun h5 => W.skip ?_)))
        · exact absurd h5 (by simp)
        refine W.seqR hT hG3 rfl trivial ?_
        have hX : bLoop n get cost (nR - 1).toNat (rawA n (rawA n at_), []) = x := by
          rw [show (nR - 1).toNat = j from by omega]
          exact hx
        have hX' : topoX n get at_ m = x := by
          unfold topoX
          rw [hnR, hco]
          exact hX
        rw [hX']
        refine W.ret ⟨_, [(0, some 0), (1, some 3), (2, some 85)], rfl, rfl, ⟨⟨rfl, rfl, trivial⟩, trivial⟩, ⟨⟨rfl, cellM.refl _, ?_, trivial⟩, ⟨rfl, rfl, rfl, fun _ _ _ _ => cellM.refl _⟩, ⟨rfl, rfl, rfl, ?_⟩, trivial⟩, rfl, rfl, rfl⟩
        · rfl
        · rw [lks_lkG]
          exact fun _ _ _ _ => cellM.refl _
  · cases h
end Go.Proofs.Ytahhejlpmacloaa

/- The walks of comparisons and searches in slices of ints. -/
namespace Go.Proofs.Ytahhejlpmacloaa
open Go Go.Eng

abbrev Get := Nat → Nat → Cell
def bv' (b : Bool) : AV := .one (.c (.val (.bool b)))

theorem if_eq_imp {c : Bool} {p : Bool} (h : (if c = true then p else false) = true) : c = true ∧ p = true := by
  cases c <;> simp_all

theorem if_eq_imp' {c : Bool} {p : Bool} (h : (if c = true then p else false) = false) : c = true → p = false := by
  cases c <;> simp_all

/-! ### numbers -/
def spNaN : FSpec
  | [.one (.c (.val (.int .i64 _)))], [] => some ⟨[], bv' false, []⟩
  | _, _ => none
theorem nan_holds : Holds Try.prog 70 spNaN := by
  refine Holds.of hT Try.func70 rfl 6 rfl fun args bs out h hc => ?_
  unfold spNaN at h
  split at h
  rotate_left
  · cases h
  rename_i x
  simp only [Option.some.injEq] at h
  subst h
  refine ⟨by simp, by simp [Res.live], fun F hF => ?_⟩
  refine W.seqR hT hG0 rfl (by (repeat' (first | assumption | exact rfl | exact trivial | omega | (dsimp only; omega) | refine ⟨?_, ?_⟩ | intro _ | (simp_all; done) | fail))) ?_
  refine W.seqR hT hG0 rfl (by (repeat' (first | assumption | exact rfl | exact trivial | omega | (dsimp only; omega) | refine ⟨?_, ?_⟩ | intro _ | (simp_all; done) | fail))) ?_
  refine W.ret ⟨_, [], rfl, rfl, ?_, ?_, rfl, rfl, rfl⟩ <;> (repeat' (first | exact rfl | exact trivial | exact cellM.refl _ | exact fun _ _ _ _ => cellM.refl _ | exact fun _ => ⟨rfl, fun _ _ _ _ => cellM.refl _⟩ | refine ⟨?_, ?_⟩ | fail))
  show Value.bool (x != x) = Value.bool false
  simp

def cmpV (x y : Int) : Int := if x < y then -1 else if x > y then 1 else 0
def H1 : List (Nat × FSpec) := [(70, spNaN)]
theorem hH1 : GOK Try.prog H1 := GOK.cons (enters Try.func70 rfl (by kernel_rfl)) nan_holds hG0

def spCompare : FSpec
  | [.one (.c (.val (.int .i64 x))), .one (.c (.val (.int .i64 y)))], [] => some ⟨[], iv (cmpV x y), []⟩
  | _, _ => none
theorem compare_holds : Holds Try.prog 58 spCompare := by
  refine Holds.of hT Try.func58 rfl 20 rfl fun args bs out h hc => ?_
  unfold spCompare at h
  split at h
  rotate_left
  · cases h
  rename_i x y
  simp only [Option.some.injEq] at h
  subst h
  refine ⟨by simp, by simp [Res.live], fun F hF => ?_⟩
  refine W.seqR hT hH1 rfl (by (repeat' (first | assumption | exact rfl | exact trivial | omega | (dsimp only; omega) | refine ⟨?_, ?_⟩ | intro _ | (simp_all; done) | fail))) ?_
  refine W.seqR hT hH1 rfl (by (repeat' (first | assumption | exact rfl | exact trivial | omega | (dsimp only; omega) | refine ⟨?_, ?_⟩ | intro _ | (simp_all; done) | fail))) ?_
  refine W.seqR hT hH1 rfl (by (repeat' (first | assumption | exact rfl | exact trivial | omega | (dsimp only; omega) | refine ⟨?_, ?_⟩ | intro _ | (simp_all; done) | fail))) ?_
  refine W.seq (W.seqR hT hH1 rfl (by (repeat' (first | assumption | exact rfl | exact trivial | omega | (dsimp only; omega) | refine ⟨?_, ?_⟩ | intro _ | (simp_all; done) | fail))) (W.cond rfl (fun h1 => ?_) (fun h1 => W.skip ?_)))
  · cases h1
  refine W.seq (W.seqR hT hH1 rfl (by (repeat' (first | assumption | exact rfl | exact trivial | omega | (dsimp only; omega) | refine ⟨?_, ?_⟩ | intro _ | (simp_all; done) | fail))) (W.cond rfl (fun h2 => ?_) (fun h2 => W.skip ?_)))
  · cases h2
  refine W.seq (W.seqR hT hH1 rfl (by (repeat' (first | assumption | exact rfl | exact trivial | omega | (dsimp only; omega) | refine ⟨?_, ?_⟩ | intro _ | (simp_all; done) | fail))) (W.cond rfl (fun h3 => ?_) (fun h3 => W.skip ?_)))
  · have h3 : x < y := of_decide_eq_true h3
    refine W.seqR hT hH1 rfl (by (repeat' (first | assumption | exact rfl | exact trivial | omega | (dsimp only; omega) | refine ⟨?_, ?_⟩ | intro _ | (simp_all; done) | fail))) ?_
    refine W.ret ⟨_, [], rfl, rfl, ?_, ?_, rfl, rfl, rfl⟩ <;> (repeat' (first | exact rfl | exact trivial | exact cellM.refl _ | exact fun _ _ _ _ => cellM.refl _ | exact fun _ => ⟨rfl, fun _ _ _ _ => cellM.refl _⟩ | refine ⟨?_, ?_⟩ | fail))
    show Value.int .i64 (-1) = Value.int .i64 (cmpV x y)
    rw [cmpV, if_pos h3]
  have h3 : ¬ x < y := of_decide_eq_false h3
  refine W.seq (W.seqR hT hH1 rfl (by (repeat' (first | assumption | exact rfl | exact trivial | omega | (dsimp only; omega) | refine ⟨?_, ?_⟩ | intro _ | (simp_all; done) | fail))) (W.cond rfl (fun h4 => ?_) (fun h4 => W.skip ?_)))
  · have h4 : x > y := of_decide_eq_true h4
    refine W.seqR hT hH1 rfl (by (repeat' (first | assumption | exact rfl | exact trivial | omega | (dsimp only; omega) | refine ⟨?_, ?_⟩ | intro _ | (simp_all; done) | fail))) ?_
    refine W.ret ⟨_, [], rfl, rfl, ?_, ?_, rfl, rfl, rfl⟩ <;> (repeat' (first | exact rfl | exact trivial | exact cellM.refl _ | exact fun _ _ _ _ => cellM.refl _ | exact fun _ => ⟨rfl, fun _ _ _ _ => cellM.refl _⟩ | refine ⟨?_, ?_⟩ | fail))
    show Value.int .i64 1 = Value.int .i64 (cmpV x y)
    rw [cmpV, if_neg h3, if_pos h4]
  have h4 : ¬ x > y := of_decide_eq_false h4
  refine W.seqR hT hH1 rfl (by (repeat' (first | assumption | exact rfl | exact trivial | omega | (dsimp only; omega) | refine ⟨?_, ?_⟩ | intro _ | (simp_all; done) | fail))) ?_
  refine W.ret ⟨_, [], rfl, rfl, ?_, ?_, rfl, rfl, rfl⟩ <;> (repeat' (first | exact rfl | exact trivial | exact cellM.refl _ | exact fun _ _ _ _ => cellM.refl _ | exact fun _ => ⟨rfl, fun _ _ _ _ => cellM.refl _⟩ | refine ⟨?_, ?_⟩ | fail))
  show Value.int .i64 0 = Value.int .i64 (cmpV x y)
  rw [cmpV, if_neg h3, if_neg h4]

def spLess : FSpec
  | [.one (.c (.val (.int .i64 x))), .one (.c (.val (.int .i64 y)))], [] => some ⟨[], bv' (decide (x < y)), []⟩
  | _, _ => none
theorem less_holds : Holds Try.prog 51 spLess := by
  refine Holds.of hT Try.func51 rfl 17 rfl fun args bs out h hc => ?_
  unfold spLess at h
  split at h
  rotate_left
  · cases h
  rename_i x y
  simp only [Option.some.injEq] at h
  subst h
  refine ⟨by simp, by simp [Res.live], fun F hF => ?_⟩
  refine W.seqR hT hH1 rfl (by (repeat' (first | assumption | exact rfl | exact trivial | omega | (dsimp only; omega) | refine ⟨?_, ?_⟩ | intro _ | (simp_all; done) | fail))) ?_
  refine W.seqR hT hH1 rfl (by (repeat' (first | assumption | exact rfl | exact trivial | omega | (dsimp only; omega) | refine ⟨?_, ?_⟩ | intro _ | (simp_all; done) | fail))) ?_
  refine W.ret ⟨_, [], rfl, rfl, ?_, ?_, rfl, rfl, rfl⟩ <;> (repeat' (first | exact rfl | exact trivial | exact cellM.refl _ | exact fun _ _ _ _ => cellM.refl _ | exact fun _ => ⟨rfl, fun _ _ _ _ => cellM.refl _⟩ | refine ⟨?_, ?_⟩ | fail))

def spIn : FSpec
  | [.one (.c (.val (.int .i64 n))), .one (.c (.val (.int .i64 a))), .one (.c (.val (.int .i64 b)))], [] => some ⟨[], bv' (decide (a ≤ n ∧ n ≤ b)), []⟩
  | _, _ => none
theorem in_holds : Holds Try.prog 39 spIn := by
  refine Holds.of hT Try.func39 rfl 15 rfl fun args bs out h hc => ?_
  unfold spIn at h
  split at h
  rotate_left
  · cases h
  rename_i n a b
  simp only [Option.some.injEq] at h
  subst h
  refine ⟨by simp, by simp [Res.live], fun F hF => ?_⟩
  refine W.seqR hT hG0 rfl (by (repeat' (first | assumption | exact rfl | exact trivial | omega | (dsimp only; omega) | refine ⟨?_, ?_⟩ | intro _ | (simp_all; done) | fail))) ?_
  refine W.seqR hT hG0 rfl (by (repeat' (first | assumption | exact rfl | exact trivial | omega | (dsimp only; omega) | refine ⟨?_, ?_⟩ | intro _ | (simp_all; done) | fail))) ?_
  refine W.ret ⟨_, [], rfl, rfl, ?_, ?_, rfl, rfl, rfl⟩ <;> (repeat' (first | exact rfl | exact trivial | exact cellM.refl _ | exact fun _ _ _ _ => cellM.refl _ | exact fun _ => ⟨rfl, fun _ _ _ _ => cellM.refl _⟩ | refine ⟨?_, ?_⟩ | fail))
  show Value.bool (if decide (n ≥ a) = true then decide (n ≤ b) else false) = Value.bool (decide (a ≤ n ∧ n ≤ b))
  by_cases h1 : a ≤ n <;> by_cases h2 : n ≤ b <;> simp [h1, h2]

/-! ### slices of ints -/
def ints (n : Nat) (g : Get) : List Int := (List.range n).map fun i => cellI (g i 0)
def inG (l : List Int) : Get := fun i _ => .val (.int .i64 (l.getD i 0))
def intsOK (n : Nat) (g : Get) : Prop := ∀ i, i < n → isI (g i 0)
theorem ints_length (n : Nat) (g : Get) : (ints n g).length = n := by simp [ints]
theorem ints_at {n : Nat} {g : Get} {i : Nat} (hi : i < n) : (ints n g).getD i 0 = cellI (g i 0) := by simp [ints, hi]
theorem ints_cell {n : Nat} {g : Get} (hg : intsOK n g) : ∀ i, i < n → ∀ j, j < 1 → cellM (g i j) (inG (ints n g) i j) := by
  intro i hi j hj
  obtain rfl : j = 0 := by omega
  have e : inG (ints n g) i 0 = g i 0 := by
    rw [inG, ints_at hi, hg i hi]
    rfl
  rw [e]
  exact cellM.refl _
theorem ints_inG (l : List Int) : ints l.length (inG l) = l := by
  apply List.ext_getElem
  · simp [ints]
  · intro i h1 h2
    simp [ints, inG, cellI, h2]
theorem inG_ok (l : List Int) (n : Nat) : intsOK n (inG l) := fun _ _ => rfl

/-- The first place of x, or -1. -/
def idxV (x : Int) (l : List Int) : Int := match l.findIdx? (fun y => decide (y = x)) with
  | some i => i
  | none => -1

theorem idxV_stop {x : Int} {l : List Int} {k : Nat} (hk : k < l.length) (hx : l.getD k 0 = x) (hl : ∀ j, j < k → l.getD j 0 ≠ x) : idxV x l = k := by
  have : l.findIdx? (fun y => decide (y = x)) = some k := by
    rw [List.findIdx?_eq_some_iff_getElem]
    refine ⟨hk, by simpa [hk] using hx, fun j hj => ?_⟩
    have := hl j hj
    have hjl : j < l.length := by omega
    simpa [hjl] using this
  rw [idxV, this]
theorem idxV_none {x : Int} {l : List Int} (hl : ∀ j, j < l.length → l.getD j 0 ≠ x) : idxV x l = -1 := by
  have : l.findIdx? (fun y => decide (y = x)) = none := by
    rw [List.findIdx?_eq_none_iff]
    intro y hy
    obtain ⟨j, hj, rfl⟩ := List.getElem_of_mem hy
    have := hl j hj
    simpa [hj] using this
  rw [idxV, this]
theorem idxV_mem (x : Int) (l : List Int) : (0 ≤ idxV x l) ↔ x ∈ l := by
  unfold idxV
  cases h : l.findIdx? (fun y => decide (y = x)) with
  | some i =>
    obtain ⟨hi, h1, _⟩ := List.findIdx?_eq_some_iff_getElem.1 h
    have h1 : l[i] = x := by simpa using h1
    simp only []
    exact ⟨fun _ => h1 ▸ List.getElem_mem hi, fun _ => by omega⟩
  | none =>
    have := List.findIdx?_eq_none_iff.1 h
    simp only []
    refine ⟨fun h => by omega, fun hm => ?_⟩
    have := this x hm
    simp at this

def iI (n : Nat) (l : List Int) (x : Int) (k : Nat) : St := ⟨[(1, iv x), (0, .one (.c (.sl n 1 (inG l)))), (6, .one (.c (.sl n 1 (inG l)))), (7, iv n), (8, iv k)], []⟩

def spIndex : FSpec
  | [.one (.c (.sl n 1 g)), .one (.c (.val (.int .i64 x)))], [] => some ⟨[n ≤ 9223372036854775806, intsOK n g], iv (idxV x (ints n g)), []⟩
  | _, _ => none
theorem index_holds : Holds Try.prog 34 spIndex := by
  refine Holds.of hT Try.func34 rfl 19 rfl fun args bs out h hc => ?_
  unfold spIndex at h
  split at h
  rotate_left
  · cases h
  rename_i n g x
  simp only [Option.some.injEq] at h
  subst h
  obtain ⟨hn, hg, _⟩ := hc
  refine ⟨by simp, by simp [Res.live], fun F hF => ?_⟩
  refine W.seqR hT hG0 rfl (by (repeat' (first | assumption | exact rfl | exact trivial | omega | (dsimp only; omega) | refine ⟨?_, ?_⟩ | intro _ | (simp_all; done) | fail))) ?_
  refine W.seq (W.seqR hT hG0 rfl trivial ?_)
  have hll := ints_length n g
  refine W.block (W.loop (γ := { k : Nat // k ≤ n ∧ ∀ j, j < k → (ints n g).getD j 0 ≠ x }) (fun k => iI n (ints n g) x k.1) 0 (fun k => n - k.1) ⟨0, Nat.zero_le _, fun j hj => by omega⟩ [] ?_ ?_)
  · refine ⟨by rw [hF]; rfl, ?_, ?_, rfl, rfl, rfl⟩ <;> (repeat' (first | exact rfl | exact trivial | exact cellM.refl _ | exact fun _ _ _ _ => cellM.refl _ | exact fun _ => ⟨rfl, fun _ _ _ _ => cellM.refl _⟩ | refine ⟨?_, ?_⟩ | fail))
    · exact ints_cell hg
    · exact ints_cell hg
  rintro ⟨k, hk, hkl⟩
  refine W.seqR hT hG0 rfl (by (repeat' (first | assumption | exact rfl | exact trivial | omega | (dsimp only; omega) | refine ⟨?_, ?_⟩ | intro _ | (simp_all; done) | fail))) (W.seq (W.cond rfl (fun h1 => W.skip ?_) (fun h1 => W.exit ?_)))
  · have h1 : k < n := by have h1 : (k : Int) < (n : Int) := of_decide_eq_true h1; omega
    refine W.seq (W.block ?_)
    refine W.seqR hT hG0 rfl (by (repeat' (first | assumption | exact rfl | exact trivial | omega | (dsimp only; omega) | refine ⟨?_, ?_⟩ | intro _ | (simp_all; done) | fail))) ?_
    refine W.seqR hT hG0 rfl (by (repeat' (first | assumption | exact rfl | exact trivial | omega | (dsimp only; omega) | refine ⟨?_, ?_⟩ | intro _ | (simp_all; done) | fail))) (W.cond rfl (fun h2 => ?_) (fun h2 => ?_))
    · have h2 : x = (ints n g).getD k 0 := by simpa using h2
      refine W.seqR hT hG0 rfl (by (repeat' (first | assumption | exact rfl | exact trivial | omega | (dsimp only; omega) | refine ⟨?_, ?_⟩ | intro _ | (simp_all; done) | fail))) ?_
      refine W.ret ⟨_, [], rfl, rfl, ?_, ?_, rfl, rfl, rfl⟩ <;> (repeat' (first | exact rfl | exact trivial | exact cellM.refl _ | exact fun _ _ _ _ => cellM.refl _ | exact fun _ => ⟨rfl, fun _ _ _ _ => cellM.refl _⟩ | refine ⟨?_, ?_⟩ | fail))
      show Value.int .i64 (k : Int) = Value.int .i64 (idxV x (ints n g))
      rw [idxV_stop (by omega) h2.symm hkl]
    · have h2 : x ≠ (ints n g).getD k 0 := by simpa using h2
      refine W.skip ?_
      refine W.region hT hG0 rfl (by (repeat' (first | assumption | exact rfl | exact trivial | omega | (dsimp only; omega) | refine ⟨?_, ?_⟩ | intro _ | (simp_all; done) | fail))) ?_
      refine ⟨⟨k + 1, by omega, fun j hj => ?_⟩, [], ?_, ?_⟩
      · rcases Nat.lt_or_ge j k with h | h
        · exact hkl j h
        · obtain rfl : j = k := by omega
          exact fun e => h2 e.symm
      · refine ⟨by rw [hF]; rfl, ?_, ?_, rfl, rfl, rfl⟩ <;> (repeat' (first | exact rfl | exact trivial | exact cellM.refl _ | exact fun _ _ _ _ => cellM.refl _ | exact fun _ => ⟨rfl, fun _ _ _ _ => cellM.refl _⟩ | refine ⟨?_, ?_⟩ | fail))
        show Value.int .i64 (IntKind.i64.wrap ((k : Int) + 1)) = Value.int .i64 ((k + 1 : Nat) : Int)
        rw [wi (by omega)]
        rfl
      · show n - (k + 1) < n - k
        omega
  · have h1 : k = n := by have h1 : ¬ (k : Int) < (n : Int) := of_decide_eq_false h1; omega
    refine W.seqR hT hG0 rfl (by (repeat' (first | assumption | exact rfl | exact trivial | omega | (dsimp only; omega) | refine ⟨?_, ?_⟩ | intro _ | (simp_all; done) | fail))) ?_
    refine W.ret ⟨_, [], rfl, rfl, ?_, ?_, rfl, rfl, rfl⟩ <;> (repeat' (first | exact rfl | exact trivial | exact cellM.refl _ | exact fun _ _ _ _ => cellM.refl _ | exact fun _ => ⟨rfl, fun _ _ _ _ => cellM.refl _⟩ | refine ⟨?_, ?_⟩ | fail))
    show Value.int .i64 (-1) = Value.int .i64 (idxV x (ints n g))
    rw [idxV_none (fun j hj => hkl j (by omega))]

def H2 : List (Nat × FSpec) := [(34, spIndex)]
theorem hH2 : GOK Try.prog H2 := GOK.cons (enters Try.func34 rfl (by kernel_rfl)) index_holds hG0
def spContains : FSpec
  | [.one (.c (.sl n 1 g)), .one (.c (.val (.int .i64 x)))], [] => some ⟨[n ≤ 9223372036854775806, intsOK n g], bv' (decide (x ∈ ints n g)), []⟩
  | _, _ => none
theorem contains_holds : Holds Try.prog 25 spContains := by
  refine Holds.of hT Try.func25 rfl 9 rfl fun args bs out h hc => ?_
  unfold spContains at h
  split at h
  rotate_left
  · cases h
  rename_i n g x
  simp only [Option.some.injEq] at h
  subst h
  obtain ⟨hn, hg, _⟩ := hc
  refine ⟨by simp, by simp [Res.live], fun F hF => ?_⟩
  refine W.seqR hT hH2 rfl (by (repeat' (first | assumption | exact rfl | exact trivial | omega | (dsimp only; omega) | refine ⟨?_, ?_⟩ | intro _ | (simp_all; done) | fail))) ?_
  refine W.seqR hT hH2 rfl (by (repeat' (first | assumption | exact rfl | exact trivial | omega | (dsimp only; omega) | refine ⟨?_, ?_⟩ | intro _ | (simp_all; done) | fail))) ?_
  refine W.ret ⟨_, [], rfl, rfl, ?_, ?_, rfl, rfl, rfl⟩ <;> (repeat' (first | exact rfl | exact trivial | exact cellM.refl _ | exact fun _ _ _ _ => cellM.refl _ | exact fun _ => ⟨rfl, fun _ _ _ _ => cellM.refl _⟩ | refine ⟨?_, ?_⟩ | fail))
  show Value.bool (decide (idxV x (ints n g) ≥ 0)) = Value.bool (decide (x ∈ ints n g))
  rw [decide_eq_decide.2 (idxV_mem x (ints n g))]

/-- The same, of the reference. -/
def hI (n : Nat) (l : List Int) (x : Int) (k : Nat) : St := ⟨[(1, iv x), (0, .one (.c (.sl n 1 (inG l)))), (5, iv k)], []⟩
def spHas : FSpec
  | [.one (.c (.sl n 1 g)), .one (.c (.val (.int .i64 x)))], [] => some ⟨[n ≤ 9223372036854775806, intsOK n g], bv' (decide (x ∈ ints n g)), []⟩
  | _, _ => none
theorem has_holds : Holds Try.prog 10 spHas := by
  refine Holds.of hT Try.func10 rfl 18 rfl fun args bs out h hc => ?_
  unfold spHas at h
  split at h
  rotate_left
  · cases h
  rename_i n g x
  simp only [Option.some.injEq] at h
  subst h
  obtain ⟨hn, hg, _⟩ := hc
  refine ⟨by simp, by simp [Res.live], fun F hF => ?_⟩
  refine W.seqR hT hG0 rfl (by (repeat' (first | assumption | exact rfl | exact trivial | omega | (dsimp only; omega) | refine ⟨?_, ?_⟩ | intro _ | (simp_all; done) | fail))) ?_
  refine W.seq (W.seqR hT hG0 rfl trivial ?_)
  have hll := ints_length n g
  refine W.block (W.loop (γ := { k : Nat // k ≤ n ∧ ∀ j, j < k → (ints n g).getD j 0 ≠ x }) (fun k => hI n (ints n g) x k.1) 0 (fun k => n - k.1) ⟨0, Nat.zero_le _, fun j hj => by omega⟩ [] ?_ ?_)
  · refine ⟨by rw [hF]; rfl, ?_, ?_, rfl, rfl, rfl⟩ <;> (repeat' (first | exact rfl | exact trivial | exact cellM.refl _ | exact fun _ _ _ _ => cellM.refl _ | exact fun _ => ⟨rfl, fun _ _ _ _ => cellM.refl _⟩ | refine ⟨?_, ?_⟩ | fail))
    exact ints_cell hg
  rintro ⟨k, hk, hkl⟩
  refine W.seq (W.seqR hT hG0 rfl (by (repeat' (first | assumption | exact rfl | exact trivial | omega | (dsimp only; omega) | refine ⟨?_, ?_⟩ | intro _ | (simp_all; done) | fail))) (W.cond rfl (fun h1 => W.skip ?_) (fun h1 => W.exit ?_)))
  · have h1 : k < n := by have h1 : (k : Int) < (n : Int) := of_decide_eq_true h1; omega
    refine W.seq (W.block ?_)
    refine W.seqR hT hG0 rfl (by (repeat' (first | assumption | exact rfl | exact trivial | omega | (dsimp only; omega) | refine ⟨?_, ?_⟩ | intro _ | (simp_all; done) | fail))) (W.cond rfl (fun h2 => ?_) (fun h2 => ?_))
    · have h2 : (ints n g).getD k 0 = x := by simpa using h2
      refine W.seqR hT hG0 rfl (by (repeat' (first | assumption | exact rfl | exact trivial | omega | (dsimp only; omega) | refine ⟨?_, ?_⟩ | intro _ | (simp_all; done) | fail))) ?_
      refine W.ret ⟨_, [], rfl, rfl, ?_, ?_, rfl, rfl, rfl⟩ <;> (repeat' (first | exact rfl | exact trivial | exact cellM.refl _ | exact fun _ _ _ _ => cellM.refl _ | exact fun _ => ⟨rfl, fun _ _ _ _ => cellM.refl _⟩ | refine ⟨?_, ?_⟩ | fail))
      show Value.bool true = Value.bool (decide (x ∈ ints n g))
      rw [decide_eq_true]
      rw [← idxV_mem, idxV_stop (by omega) h2 hkl]
      omega
    · have h2 : (ints n g).getD k 0 ≠ x := by simpa using h2
      refine W.skip ?_
      refine W.region hT hG0 rfl (by (repeat' (first | assumption | exact rfl | exact trivial | omega | (dsimp only; omega) | refine ⟨?_, ?_⟩ | intro _ | (simp_all; done) | fail))) ?_
      refine ⟨⟨k + 1, by omega, fun j hj => ?_⟩, [], ?_, ?_⟩
      · rcases Nat.lt_or_ge j k with h | h
        · exact hkl j h
        · obtain rfl : j = k := by omega
          exact h2
      · refine ⟨by rw [hF]; rfl, ?_, ?_, rfl, rfl, rfl⟩ <;> (repeat' (first | exact rfl | exact trivial | exact cellM.refl _ | exact fun _ _ _ _ => cellM.refl _ | exact fun _ => ⟨rfl, fun _ _ _ _ => cellM.refl _⟩ | refine ⟨?_, ?_⟩ | fail))
        show Value.int .i64 (IntKind.i64.wrap ((k : Int) + 1)) = Value.int .i64 ((k + 1 : Nat) : Int)
        rw [wi (by omega)]
        rfl
      · show n - (k + 1) < n - k
        omega
  · have h1 : k = n := by have h1 : ¬ (k : Int) < (n : Int) := of_decide_eq_false h1; omega
    refine W.seqR hT hG0 rfl (by (repeat' (first | assumption | exact rfl | exact trivial | omega | (dsimp only; omega) | refine ⟨?_, ?_⟩ | intro _ | (simp_all; done) | fail))) ?_
    refine W.ret ⟨_, [], rfl, rfl, ?_, ?_, rfl, rfl, rfl⟩ <;> (repeat' (first | exact rfl | exact trivial | exact cellM.refl _ | exact fun _ _ _ _ => cellM.refl _ | exact fun _ => ⟨rfl, fun _ _ _ _ => cellM.refl _⟩ | refine ⟨?_, ?_⟩ | fail))
    show Value.bool false = Value.bool (decide (x ∈ ints n g))
    rw [decide_eq_false]
    rw [← idxV_mem, idxV_none (fun j hj => hkl j (by omega))]
    omega
end Go.Proofs.Ytahhejlpmacloaa
