/- The walks of Compact (where no two neighbours are equal), Order, Allowed. -/
import Derived.Test.YtahhejlpmacloaaPart21
import Derived.Test.YtahhejlpmacloaaPart20
namespace Go.Proofs.Ytahhejlpmacloaa
open Go Go.Eng

def cpA (l : List Int) (k : Nat) : St := ⟨[(0, .one (.own 0)), (3, iv k)], [(0, .row 3 1 l.length (inG l))]⟩
def spCompact : FSpec
  | [.one (.own 0)], [.row 3 1 n g] =>
    some ⟨[n ≤ 1000000, intsOK n g, ∀ i, i + 1 < n → (ints n g).getD (i + 1) 0 ≠ (ints n g).getD i 0], .one (.own 0), [(0, .row 3 1 n g)]⟩
  | _, _ => none
theorem ints_back {n : Nat} {g : Get} (hg : intsOK n g) : ∀ i, i < n → ∀ j, j < 1 → cellM (inG (ints n g) i j) (g i j) := by
  intro i hi j hj
  obtain rfl : j = 0 := by omega
  have e : inG (ints n g) i 0 = g i 0 := by
    have := hg i hi
    rw [this]
    simp only [inG]
    rw [ints_at hi]
  rw [e]
  exact cellM.refl _
set_option maxRecDepth 100000 in
theorem compact_holds : Holds Try.prog 24 spCompact := by
  refine Holds.of hT Try.func24 rfl 61 rfl fun args bs out h hc => ?_
  unfold spCompact at h
  split at h
  rotate_left
  · cases h
  rename_i n g
  simp only [Option.some.injEq] at h
  subst h
  obtain ⟨hn, hg, hne, _⟩ := hc
  refine ⟨by simp, by simp [Res.live], fun F hF => ?_⟩
  have hll := ints_length n g
  have hb := ints_back hg
  refine W.seqR hT hG0 rfl (by (repeat' (first | assumption | exact rfl | exact trivial | omega | (dsimp only; omega) | refine ⟨?_, ?_⟩ | intro _ | (simp_all; done) | fail))) ?_
  refine W.seq (W.seqR hT hG0 rfl (by (repeat' (first | assumption | exact rfl | exact trivial | omega | (dsimp only; omega) | refine ⟨?_, ?_⟩ | intro _ | (simp_all; done) | fail))) (W.cond rfl (fun h1 => ?_) (fun h1 => W.skip ?_)))
  · refine W.seqR hT hG0 rfl (by (repeat' (first | assumption | exact rfl | exact trivial | omega | (dsimp only; omega) | refine ⟨?_, ?_⟩ | intro _ | (simp_all; done) | fail))) ?_
    refine W.ret ⟨_, [(0, some 0)], rfl, rfl, ?_, ?_, rfl, rfl, rfl⟩ <;> (repeat' (first | exact rfl | exact trivial | exact cellM.refl _ | exact fun _ _ _ _ => cellM.refl _ | exact fun _ => ⟨rfl, fun _ _ _ _ => cellM.refl _⟩ | refine ⟨?_, ?_⟩ | fail))
  generalize hl : ints n g = l at hll hb hne
  refine W.seq ?_
  refine W.seqR hT hG0 rfl (by (repeat' (first | assumption | exact rfl | exact trivial | omega | (dsimp only; omega) | refine ⟨?_, ?_⟩ | intro _ | (simp_all; done) | fail))) ?_
  refine W.block (W.loop (γ := { k : Nat // 1 ≤ k ∧ (k ≤ n ∨ k = 1) }) (fun k => cpA l k.1) 1 (fun k => n + 1 - k.1) ⟨1, Nat.le_refl _, .inr rfl⟩ [(0, some 0)] ?_ ?_)
  · refine ⟨by rw [hF]; rfl, ?_, ?_, rfl, rfl, rfl⟩ <;> (repeat' (first | exact rfl | exact trivial | exact cellM.refl _ | exact fun _ _ _ _ => cellM.refl _ | exact fun _ => ⟨rfl, fun _ _ _ _ => cellM.refl _⟩ | refine ⟨?_, ?_⟩ | fail))
    · exact hll.symm
    · subst hl
      rw [hll]
      exact ints_cell hg
  rintro ⟨k, hk1, hk⟩
  dsimp only at hk1 hk ⊢
  have hkm : k ≤ 1000001 := by omega
  refine W.seq (W.seqR hT hG0 rfl (by (repeat' (first | assumption | exact rfl | exact trivial | omega | (dsimp only; omega) | refine ⟨?_, ?_⟩ | intro _ | (simp_all; done) | fail))) (W.cond rfl (fun h2 => W.skip ?_) (fun h2 => W.exit ?_)))
  rotate_left
  · refine W.seqR hT hG0 rfl (by (repeat' (first | assumption | exact rfl | exact trivial | omega | (dsimp only; omega) | refine ⟨?_, ?_⟩ | intro _ | (simp_all; done) | fail))) ?_
    refine W.ret ⟨_, [(0, some 0)], rfl, rfl, ?_, ?_, rfl, rfl, rfl⟩ <;> (repeat' (first | exact rfl | exact trivial | exact cellM.refl _ | exact fun _ _ _ _ => cellM.refl _ | exact fun _ => ⟨rfl, fun _ _ _ _ => cellM.refl _⟩ | refine ⟨?_, ?_⟩ | fail))
    · exact hll
    · exact hb
  have h2 : k < n := by have h2 : (k : Int) < (l.length : Int) := of_decide_eq_true h2; omega
  have hw : IntKind.i64.wrap ((k : Int) - 1) = ((k - 1 : Nat) : Int) := by
    rw [wi (by omega)]
    omega
  refine W.seq (W.block ?_)
  refine W.seq (W.regionDraw hT hG0 (by repeat (first | exact runIt_nil | (apply runIt_cons; exact rfl))) (by kernel_rfl) hmix ?_ ?_)
  · exact ⟨by omega, by omega, by omega, rfl, by rw [hw]; omega, by rw [hw]; omega, by rw [hw]; omega, rfl, trivial⟩
  refine W.cond rfl (fun h3 => ?_) (fun h3 => W.skip ?_)
  · exfalso
    have h3 : (l.getD (k : Int).toNat 0 == l.getD (IntKind.i64.wrap ((k : Int) - 1)).toNat 0) = true := h3
    rw [hw, Int.toNat_natCast, Int.toNat_natCast, beq_iff_eq] at h3
    have := hne (k - 1) (by omega)
    rw [show k - 1 + 1 = k from by omega] at this
    exact this h3
  refine W.region hT hG0 rfl (by (repeat' (first | assumption | exact rfl | exact trivial | omega | (dsimp only; omega) | refine ⟨?_, ?_⟩ | intro _ | (simp_all; done) | fail))) ?_
  refine ⟨⟨k + 1, by omega, .inl (by omega)⟩, [(0, some 0)], ?_, ?_⟩
  · refine ⟨by rw [hF]; rfl, ?_, ?_, rfl, rfl, rfl⟩ <;> (repeat' (first | exact rfl | exact trivial | exact cellM.refl _ | exact fun _ _ _ _ => cellM.refl _ | exact fun _ => ⟨rfl, fun _ _ _ _ => cellM.refl _⟩ | refine ⟨?_, ?_⟩ | fail))
    show Value.int .i64 (IntKind.i64.wrap ((k : Int) + 1)) = Value.int .i64 ((k + 1 : Nat) : Int)
    rw [wi (by omega)]
    rfl
  · dsimp only
    omega

/-! ### what Order comes to -/
def grStep (m : Int) (x : Int × Int) : Int := if decide (x.2 ≤ 24) = true then max m x.2 else m
def greatV (l : List (Int × Int)) : Int := l.foldl grStep (-1)
def ordStep (gt : Int) (F : RowsI) (x : Int × Int) : RowsI := if (if decide (x.2 ≥ 0) = true then decide (x.2 ≤ gt) else false) = true then addI F [x.2] x.1 else F
def ordF (gt : Int) (l : List (Int × Int)) : RowsI := l.foldl (ordStep gt) (fun _ => [])
def sortR (F : RowsI) (k : Nat) : RowsI := fun key => match key with
  | [i] => if decide (0 ≤ i ∧ i < k) = true then sortL ltI 0 (F [i]) else F [i]
  | _ => F key

theorem gr_range : ∀ (l : List (Int × Int)) (m : Int), -1 ≤ m → m ≤ 24 → -1 ≤ l.foldl grStep m ∧ l.foldl grStep m ≤ 24
  | [], m, h1, h2 => ⟨h1, h2⟩
  | x :: l, m, h1, h2 => by
    refine gr_range l _ ?_ ?_
    · unfold grStep
      split
      · omega
      · exact h1
    · unfold grStep
      split
      · rename_i h
        have := of_decide_eq_true h
        omega
      · exact h2
theorem sortR_step (F : RowsI) (k : Nat) : sortR F (k + 1) = updI (sortR F k) [(k : Int)] (sortL ltI 0 (sortR F k [(k : Int)])) := by
  funext key
  unfold updI
  by_cases hk : key = [(k : Int)]
  · subst hk
    rw [if_pos rfl]
    have h1 : sortR F k [(k : Int)] = F [(k : Int)] := by
      unfold sortR
      simp
    rw [h1]
    unfold sortR
    simp only
    rw [if_pos (by simp; omega)]
  · rw [if_neg hk]
    unfold sortR
    match key with
    | [] => rfl
    | [i] =>
      simp only
      have hne : i ≠ k := by rintro rfl; exact hk rfl
      by_cases h : 0 ≤ i ∧ i < (k : Int)
      · have h' : 0 ≤ i ∧ i < ((k + 1 : Nat) : Int) := by omega
        rw [if_pos (decide_eq_true h'), if_pos (decide_eq_true h)]
      · have h' : ¬ (0 ≤ i ∧ i < ((k + 1 : Nat) : Int)) := by omega
        rw [if_neg (by rw [decide_eq_true_eq]; exact h'), if_neg (by rw [decide_eq_true_eq]; exact h)]
    | _ :: _ :: _ => rfl
theorem sortR_zero (F : RowsI) : sortR F 0 = F := by
  funext key
  unfold sortR
  match key with
  | [] => rfl
  | [i] =>
    simp only
    rw [if_neg (by rw [decide_eq_true_eq]; omega)]
  | _ :: _ :: _ => rfl

/-- The rows, each router of the list in at most one place. -/
theorem ordF_rows {gt : Int} : ∀ (l pre : List (Int × Int)) (F : RowsI), ((pre ++ l).map (·.1)).Nodup → (∀ k, (F k).Nodup ∧ (∀ y ∈ F k, y ∈ pre.map (·.1)) ∧ (F k).length ≤ pre.length) →
    ∀ k, (l.foldl (ordStep gt) F k).Nodup ∧ (∀ y ∈ l.foldl (ordStep gt) F k, y ∈ (pre ++ l).map (·.1)) ∧ (l.foldl (ordStep gt) F k).length ≤ (pre ++ l).length
  | [], pre, F, _, h => by simpa using h
  | x :: l, pre, F, hn, h => by
    have hx : x.1 ∉ pre.map (·.1) := by
      intro hx
      rw [List.map_append, List.nodup_append] at hn
      exact hn.2.2 _ hx x.1 (by simp) rfl
    have := ordF_rows (gt := gt) l (pre ++ [x]) (ordStep gt F x) (by simpa using hn) (fun k => by
      unfold ordStep
      generalize (if decide (x.2 ≥ 0) = true then decide (x.2 ≤ gt) else false) = t
      have old : (F k).Nodup ∧ (∀ y ∈ F k, y ∈ (pre ++ [x]).map (·.1)) ∧ (F k).length ≤ (pre ++ [x]).length := by
        obtain ⟨h1, h2, h3⟩ := h k
        exact ⟨h1, fun y hy => by rw [List.map_append]; exact List.mem_append_left _ (h2 y hy), by simp; omega⟩
      cases t with
      | false => simpa using old
      | true =>
        show (if k = [x.2] then F [x.2] ++ [x.1] else F k).Nodup ∧ (∀ y ∈ (if k = [x.2] then F [x.2] ++ [x.1] else F k), y ∈ (pre ++ [x]).map (·.1)) ∧ (if k = [x.2] then F [x.2] ++ [x.1] else F k).length ≤ (pre ++ [x]).length
        by_cases hk : k = [x.2]
        · rw [if_pos hk]
          obtain ⟨h1, h2, h3⟩ := h [x.2]
          refine ⟨?_, fun y hy => ?_, by simp; omega⟩
          · rw [List.nodup_append]
            refine ⟨h1, by simp, fun a ha b hb hab => ?_⟩
            rw [List.mem_singleton.1 hb] at hab
            subst hab
            exact hx (h2 _ ha)
          · rcases List.mem_append.1 hy with hy | hy
            · rw [List.map_append]; exact List.mem_append_left _ (h2 y hy)
            · rw [List.mem_singleton.1 hy]; simp
        · rw [if_neg hk]
          exact old)
    simpa using this
theorem nodup_adj {l : List Int} (h : l.Nodup) : ∀ i, i + 1 < l.length → l.getD (i + 1) 0 ≠ l.getD i 0 := by
  intro i hi he
  rw [List.getD_eq_getElem?_getD, List.getD_eq_getElem?_getD, List.getElem?_eq_getElem hi, List.getElem?_eq_getElem (by omega)] at he
  simp only [Option.getD_some] at he
  have := (List.getElem_inj h).1 he
  omega

theorem grpI_set {F : RowsI} {k0 : List Int} {l : List Int} {n : Nat} (hn : n = l.length) :
    ∀ k, (updF (updF (fun k => ((F k).length, inG (F k))) k0 nilRow) k0 (n, inG l) k).1 = (updI F k0 l k).length ∧
      ∀ i, i < (updI F k0 l k).length → ∀ j, j < 1 → cellM ((updF (updF (fun k => ((F k).length, inG (F k))) k0 nilRow) k0 (n, inG l) k).2 i j) (inG (updI F k0 l k) i j) := by
  intro k
  unfold updI updF
  by_cases h : k = k0
  · rw [if_pos h, if_pos h]
    exact ⟨hn, fun _ _ _ _ => cellM.refl _⟩
  · rw [if_neg h, if_neg h, if_neg h]
    exact ⟨rfl, fun _ _ _ _ => cellM.refl _⟩
theorem updI_self (F : RowsI) (k : List Int) : updI F k (F k) = F := by
  funext k'
  unfold updI
  split
  · rename_i h
    rw [h]
  · rfl

def oD (m : Nat) (F : RowsI) (k : Nat) : St := ⟨[(6, .one (.own 0)), (57, iv m), (58, iv k), (9, iv k)], [(0, .rowR 22 1 m none), (1, .grp 3 1 (fun k => ((F k).length, inG (F k))))]⟩
def HD9 : List (Nat × FSpec) := [(23, spSortI), (24, spCompact)]
set_option maxRecDepth 100000 in
theorem hHD9 : GOK Try.prog HD9 := GOK.cons (enters Try.func23 rfl (by kernel_rfl)) sortI_holds (GOK.cons (enters Try.func24 rfl (by kernel_rfl)) compact_holds hG0)

def oA (l : List (Int × Int)) (gt : Int) (k : Nat) : St := ⟨[(0, .one (.c (.sl l.length 2 (stG l)))), (3, iv gt), (10, .one (.c (.sl l.length 2 (stG l)))), (11, iv l.length), (12, iv k)], []⟩
def oB (l : List (Int × Int)) (gt : Int) (m : Nat) (F : RowsI) (k : Nat) : St :=
  ⟨[(3, iv gt), (6, .one (.own 0)), (27, .one (.c (.sl l.length 2 (stG l)))), (28, iv l.length), (29, iv k)], [(0, .rowR 22 1 m none), (1, .grp 3 1 (fun k => ((F k).length, inG (F k))))]⟩
def oB' (l : List (Int × Int)) (gt : Int) (m : Nat) (F : RowsI) (k : Nat) (x : Int × Int) : St :=
  ⟨[(3, iv gt), (6, .one (.own 0)), (27, .one (.c (.sl l.length 2 (stG l)))), (28, iv l.length), (29, iv k), (8, .one (.ptr 2 0))], [(0, .rowR 22 1 m none), (1, .grp 3 1 (fun k => ((F k).length, inG (F k)))), (2, .box 64 [.c (.val (.int .i64 x.1)), .c (.val (.int .i64 x.2))])]⟩
def oC (m : Nat) (F : RowsI) (k : Nat) : St := ⟨[(6, .one (.own 0)), (57, iv m), (58, iv k)], [(0, .rowR 22 1 m none), (1, .grp 3 1 (fun k => ((F k).length, inG (F k))))]⟩

def ordM (l : List (Int × Int)) : Nat := (greatV l + 1).toNat
def spOrd : FSpec
  | [.one (.c (.sl n 2 g))], [] =>
    some ⟨[n ≤ 12, stOK n g, ((sts n g).map (·.1)).Nodup], .one (.own 0),
      [(0, .rowR 22 1 (ordM (sts n g)) none), (1, .grp 3 1 (fun k => ((sortR (ordF (greatV (sts n g)) (sts n g)) (ordM (sts n g)) k).length, inG (sortR (ordF (greatV (sts n g)) (sts n g)) (ordM (sts n g)) k))))]⟩
  | _, _ => none

set_option maxRecDepth 100000 in
set_option maxHeartbeats 4000000 in
theorem ord_holds : Holds Try.prog 9 spOrd := by
  refine Holds.of hT Try.func9 rfl 76 rfl fun args bs out h hc => ?_
  unfold spOrd at h
  split at h
  rotate_left
  · cases h
  rename_i n g
  simp only [Option.some.injEq] at h
  subst h
  obtain ⟨hn, hg, hnd, _⟩ := hc
  refine ⟨by simp, by simp [Res.live], fun F hF => ?_⟩
  have hll := sts_length n g
  generalize hl : sts n g = l at hll hnd ⊢
  refine W.seqR hT hHD9 rfl (by (repeat' (first | assumption | exact rfl | exact trivial | omega | (dsimp only; omega) | refine ⟨?_, ?_⟩ | intro _ | (simp_all; done) | fail))) ?_
  refine W.seqR hT hHD9 rfl (by (repeat' (first | assumption | exact rfl | exact trivial | omega | (dsimp only; omega) | refine ⟨?_, ?_⟩ | intro _ | (simp_all; done) | fail))) ?_
  refine W.cut (ρ := []) (nx' := 0) (t := ⟨[(0, .one (.c (.sl l.length 2 (stG l)))), (3, iv (-1))], []⟩) ?_ ?_
  · refine ⟨by rw [hF]; rfl, ?_, ?_, rfl, rfl, rfl⟩ <;> (repeat' (first | exact rfl | exact trivial | exact cellM.refl _ | exact fun _ _ _ _ => cellM.refl _ | exact fun _ => ⟨rfl, fun _ _ _ _ => cellM.refl _⟩ | refine ⟨?_, ?_⟩ | fail))
    · exact hll.symm
    · rw [hll, ← hl]; exact sts_cell hg
  refine W.seq (W.seqR hT hHD9 rfl (by (repeat' (first | assumption | exact rfl | exact trivial | omega | (dsimp only; omega) | refine ⟨?_, ?_⟩ | intro _ | (simp_all; done) | fail))) ?_)
  refine W.block (W.loop (γ := { k : Nat // k ≤ l.length }) (fun k => oA l ((l.take k.1).foldl grStep (-1)) k.1) 0 (fun k => l.length - k.1) ⟨0, Nat.zero_le _⟩ [] ?_ ?_)
  · refine ⟨by rw [hF]; rfl, ?_, ?_, rfl, rfl, rfl⟩ <;> (repeat' (first | exact rfl | exact trivial | exact cellM.refl _ | exact fun _ _ _ _ => cellM.refl _ | exact fun _ => ⟨rfl, fun _ _ _ _ => cellM.refl _⟩ | refine ⟨?_, ?_⟩ | fail))
  rintro ⟨k, hk⟩
  dsimp only at hk ⊢
  refine W.seqR hT hHD9 rfl (by (repeat' (first | assumption | exact rfl | exact trivial | omega | (dsimp only; omega) | refine ⟨?_, ?_⟩ | intro _ | (simp_all; done) | fail))) (W.seq (W.cond rfl (fun h1 => W.skip ?_) (fun h1 => W.exit ?_)))
  · have h1 : k < l.length := by have h1 : (k : Int) < (l.length : Int) := of_decide_eq_true h1; omega
    have hst := fold_step grStep (-1) h1
    generalize (l.take k).foldl grStep (-1) = m at hst ⊢
    have hx : l[k] = stAt l k := by simp [stAt, h1]
    rw [hx] at hst
    have wk : Value.int .i64 (IntKind.i64.wrap ((k : Int) + 1)) = Value.int .i64 ((k + 1 : Nat) : Int) := by
      rw [wi (by omega)]
      rfl
    refine W.seq (W.block ?_)
    refine W.seqR hT hHD9 rfl (by (repeat' (first | assumption | exact rfl | exact trivial | omega | (dsimp only; omega) | refine ⟨?_, ?_⟩ | intro _ | (simp_all; done) | fail))) ?_
    refine W.seqR hT hHD9 rfl (by (repeat' (first | assumption | exact rfl | exact trivial | omega | (dsimp only; omega) | refine ⟨?_, ?_⟩ | intro _ | (simp_all; done) | fail))) (W.cond rfl (fun h2 => ?_) (fun h2 => W.skip ?_))
    · have h2 : decide ((stAt l k).2 ≤ 24) = true := h2
      rw [grStep, if_pos h2] at hst
      refine W.region hT hHD9 rfl (by (repeat' (first | assumption | exact rfl | exact trivial | omega | (dsimp only; omega) | refine ⟨?_, ?_⟩ | intro _ | (simp_all; done) | fail))) ?_
      refine W.region hT hHD9 rfl (by (repeat' (first | assumption | exact rfl | exact trivial | omega | (dsimp only; omega) | refine ⟨?_, ?_⟩ | intro _ | (simp_all; done) | fail))) ?_
      refine ⟨⟨k + 1, by omega⟩, [], ?_, ?_⟩
      · dsimp only
        rw [hst]
        refine ⟨by rw [hF]; rfl, ?_, ?_, rfl, rfl, rfl⟩ <;> (repeat' (first | exact rfl | exact trivial | exact cellM.refl _ | exact fun _ _ _ _ => cellM.refl _ | exact fun _ => ⟨rfl, fun _ _ _ _ => cellM.refl _⟩ | refine ⟨?_, ?_⟩ | fail))
        exact wk
      · dsimp only
        omega
    · have h2 : decide ((stAt l k).2 ≤ 24) = false := h2
      rw [grStep, if_neg (ne_true_of_eq_false h2)] at hst
      refine W.region hT hHD9 rfl (by (repeat' (first | assumption | exact rfl | exact trivial | omega | (dsimp only; omega) | refine ⟨?_, ?_⟩ | intro _ | (simp_all; done) | fail))) ?_
      refine ⟨⟨k + 1, by omega⟩, [], ?_, ?_⟩
      · dsimp only
        rw [hst]
        refine ⟨by rw [hF]; rfl, ?_, ?_, rfl, rfl, rfl⟩ <;> (repeat' (first | exact rfl | exact trivial | exact cellM.refl _ | exact fun _ _ _ _ => cellM.refl _ | exact fun _ => ⟨rfl, fun _ _ _ _ => cellM.refl _⟩ | refine ⟨?_, ?_⟩ | fail))
        exact wk
      · dsimp only
        omega
  have h1 : k = l.length := by have h1 : ¬ (k : Int) < (l.length : Int) := of_decide_eq_false h1; omega
  subst h1
  rw [List.take_length]
  obtain ⟨hg1, hg2⟩ := gr_range l (-1) (by omega) (by omega)
  have hgv : greatV l = l.foldl grStep (-1) := rfl
  have hmv : ordM l = (greatV l + 1).toNat := rfl
  rw [← hgv] at hg1 hg2 ⊢
  generalize greatV l = gt at hg1 hg2 hmv ⊢
  generalize ordM l = m at hmv ⊢
  have hw : IntKind.i64.wrap (gt + 1) = (m : Int) := by rw [wi (by omega)]; omega
  refine W.seqR hT hHD9 rfl ?_ ?_
  · exact ⟨rfl, rfl, by omega, by omega, by rw [hw]; show 24 * m ≤ 140737488355328; omega, trivial⟩
  have hFV : ∀ k, (ordF gt l k).Nodup ∧ (ordF gt l k).length ≤ l.length := by
    intro k
    have := ordF_rows (gt := gt) l [] (fun _ => []) (by simpa using hnd) (fun k => ⟨List.nodup_nil, by simp, Nat.le_refl _⟩) k
    exact ⟨this.1, by have h2 := this.2.2; rw [List.nil_append] at h2; exact h2⟩
  have hpre : ∀ (j : Nat) k, ((l.take j).foldl (ordStep gt) (fun _ => []) k).length ≤ l.length := by
    intro j k
    have hnd' : (([] ++ l.take j).map (fun p : Int × Int => p.1)).Nodup := by
      rw [List.nil_append, List.map_take]
      exact hnd.sublist (List.take_sublist _ _)
    have := ordF_rows (gt := gt) (l.take j) [] (fun _ => []) hnd' (fun k => ⟨List.nodup_nil, by simp, Nat.le_refl _⟩) k
    have h2 := this.2.2
    rw [List.nil_append, List.length_take] at h2
    omega
  have hFd : ordF gt l = l.foldl (ordStep gt) (fun _ => []) := rfl
  generalize ordF gt l = FV at hFV hFd ⊢
  refine W.seq (W.seqR hT hHD9 rfl (by (repeat' (first | assumption | exact rfl | exact trivial | omega | (dsimp only; omega) | refine ⟨?_, ?_⟩ | intro _ | (simp_all; done) | fail))) ?_)
  refine W.block (W.loop (γ := { k : Nat // k ≤ l.length }) (fun k => oB l gt m ((l.take k.1).foldl (ordStep gt) (fun _ => [])) k.1) 2 (fun k => l.length - k.1) ⟨0, Nat.zero_le _⟩ [(0, some 48), (1, some 49)] ?_ ?_)
  · refine ⟨by rw [hF]; rfl, ?_, ?_, rfl, rfl, rfl⟩ <;> (repeat' (first | exact rfl | exact trivial | exact cellM.refl _ | exact fun _ _ _ _ => cellM.refl _ | exact fun _ => ⟨rfl, fun _ _ _ _ => cellM.refl _⟩ | refine ⟨?_, ?_⟩ | fail))
    · show (IntKind.i64.wrap (gt + 1)).toNat = m
      rw [hw]
      exact Int.toNat_natCast m
    · exact fun k => ⟨rfl, fun i hi => absurd hi (Nat.not_lt_zero i)⟩
  rintro ⟨k, hk⟩
  dsimp only at hk ⊢
  refine W.seqR hT hHD9 rfl (by (repeat' (first | assumption | exact rfl | exact trivial | omega | (dsimp only; omega) | refine ⟨?_, ?_⟩ | intro _ | (simp_all; done) | fail))) (W.seq (W.cond rfl (fun h1 => W.skip ?_) (fun h1 => W.exit ?_)))
  · have h1 : k < l.length := by have h1 : (k : Int) < (l.length : Int) := of_decide_eq_true h1; omega
    have hst := fold_step (ordStep gt) (fun _ => []) h1
    have hlen := hpre k
    generalize (l.take k).foldl (ordStep gt) (fun _ => []) = Fk at hst hlen ⊢
    have hx : l[k] = stAt l k := by simp [stAt, h1]
    rw [hx] at hst
    have wk : Value.int .i64 (IntKind.i64.wrap ((k : Int) + 1)) = Value.int .i64 ((k + 1 : Nat) : Int) := by
      rw [wi (by omega)]
      rfl
    refine W.seq (W.block ?_)
    refine W.seqR hT hHD9 rfl (by (repeat' (first | assumption | exact rfl | exact trivial | omega | (dsimp only; omega) | refine ⟨?_, ?_⟩ | intro _ | (simp_all; done) | fail))) ?_
    refine W.cut (ρ := [(0, some 0), (1, some 1), (2, some 50)]) (nx' := 3) (t := oB' l gt m Fk k (stAt l k)) ?_ ?_
    · refine ⟨by rw [hF]; rfl, ?_, ?_, rfl, rfl, rfl⟩ <;> (repeat' (first | exact rfl | exact trivial | exact cellM.refl _ | exact fun _ _ _ _ => cellM.refl _ | exact fun _ => ⟨rfl, fun _ _ _ _ => cellM.refl _⟩ | refine ⟨?_, ?_⟩ | fail))
    generalize stAt l k = x at hst ⊢
    refine W.seqR hT hHD9 rfl ⟨rfl, fun _ => trivial, fun h => ⟨h, trivial⟩, fun _ => trivial, fun h => ⟨h, h, rfl, trivial⟩, fun h => h, fun _ => rfl, trivial⟩ (W.cond rfl (fun h2 => ?_) (fun h2 => W.skip ?_))
    · have h2 : (if decide (x.2 ≥ 0) = true then decide (x.2 ≤ gt) else false) = true := h2
      rw [ordStep, if_pos h2] at hst
      have hx0 : 0 ≤ x.2 ∧ x.2 ≤ gt := by
        by_cases h : x.2 ≥ 0
        · rw [if_pos (by simpa using h)] at h2
          exact ⟨h, of_decide_eq_true h2⟩
        · rw [if_neg (by simpa using h)] at h2
          cases h2
      obtain ⟨x1, x2⟩ := x
      dsimp only at hst hx0
      obtain ⟨r, rfl⟩ : ∃ r : Nat, x2 = r := ⟨x2.toNat, by omega⟩
      have hrm : r < m := by omega
      have hrl := hlen [(r : Int)]
      refine W.regionDraw hT hHD9 (by repeat (first | exact runIt_nil | (apply runIt_cons; exact rfl))) (by kernel_rfl) hmix ?_ ?_
      · exact ⟨by omega, by omega, by omega, by show (Fk [(r : Int)]).length + 1 ≤ 9223372036854775807; omega, by show ((Fk [(r : Int)]).length + 1) * 8 ≤ 140737488355328; omega, by omega, by omega, by omega, rfl, trivial⟩
      refine W.region hT hHD9 rfl (by (repeat' (first | assumption | exact rfl | exact trivial | omega | (dsimp only; omega) | refine ⟨?_, ?_⟩ | intro _ | (simp_all; done) | fail))) ?_
      refine ⟨⟨k + 1, by omega⟩, [(0, some 0), (1, some 355)], ?_, ?_⟩
      · dsimp only
        rw [hst]
        refine ⟨by rw [hF]; rfl, ?_, ?_, rfl, rfl, rfl⟩ <;> (repeat' (first | exact rfl | exact trivial | exact cellM.refl _ | exact fun _ _ _ _ => cellM.refl _ | exact fun _ => ⟨rfl, fun _ _ _ _ => cellM.refl _⟩ | refine ⟨?_, ?_⟩ | fail))
        · exact wk
        · exact grpI_add (F := Fk) (x := x1) (k0 := [(r : Int)]) rfl
      · dsimp only
        omega
    · have h2 : (if decide (x.2 ≥ 0) = true then decide (x.2 ≤ gt) else false) = false := h2
      rw [ordStep, if_neg (ne_true_of_eq_false h2)] at hst
      refine W.region hT hHD9 rfl (by (repeat' (first | assumption | exact rfl | exact trivial | omega | (dsimp only; omega) | refine ⟨?_, ?_⟩ | intro _ | (simp_all; done) | fail))) ?_
      refine ⟨⟨k + 1, by omega⟩, [(0, some 0), (1, some 1)], ?_, ?_⟩
      · dsimp only
        rw [hst]
        refine ⟨by rw [hF]; rfl, ?_, ?_, rfl, rfl, rfl⟩ <;> (repeat' (first | exact rfl | exact trivial | exact cellM.refl _ | exact fun _ _ _ _ => cellM.refl _ | exact fun _ => ⟨rfl, fun _ _ _ _ => cellM.refl _⟩ | refine ⟨?_, ?_⟩ | fail))
        exact wk
      · dsimp only
        omega
  have h1 : k = l.length := by have h1 : ¬ (k : Int) < (l.length : Int) := of_decide_eq_false h1; omega
  subst h1
  rw [List.take_length, ← hFd]
  refine W.seq (W.seqR hT hHD9 rfl (by (repeat' (first | assumption | exact rfl | exact trivial | omega | (dsimp only; omega) | refine ⟨?_, ?_⟩ | intro _ | (simp_all; done) | fail))) ?_)
  refine W.block (W.loop (γ := { k : Nat // k ≤ m }) (fun k => oC m (sortR FV k.1) k.1) 2 (fun k => m - k.1) ⟨0, Nat.zero_le _⟩ [(0, some 0), (1, some 1)] ?_ ?_)
  · rw [sortR_zero]
    refine ⟨by rw [hF]; rfl, ?_, ?_, rfl, rfl, rfl⟩ <;> (repeat' (first | exact rfl | exact trivial | exact cellM.refl _ | exact fun _ _ _ _ => cellM.refl _ | exact fun _ => ⟨rfl, fun _ _ _ _ => cellM.refl _⟩ | refine ⟨?_, ?_⟩ | fail))
  rintro ⟨k, hk⟩
  dsimp only at hk ⊢
  refine W.seqR hT hHD9 rfl (by (repeat' (first | assumption | exact rfl | exact trivial | omega | (dsimp only; omega) | refine ⟨?_, ?_⟩ | intro _ | (simp_all; done) | fail))) (W.seq (W.cond rfl (fun h1 => W.skip ?_) (fun h1 => W.exit ?_)))
  rotate_left
  · have h1 : k = m := by have h1 : ¬ (k : Int) < (m : Int) := of_decide_eq_false h1; omega
    subst h1
    refine W.seqR hT hHD9 rfl (by (repeat' (first | assumption | exact rfl | exact trivial | omega | (dsimp only; omega) | refine ⟨?_, ?_⟩ | intro _ | (simp_all; done) | fail))) ?_
    refine W.ret ⟨_, [(0, some 0), (1, some 1)], rfl, rfl, ?_, ?_, rfl, rfl, rfl⟩ <;> (repeat' (first | exact rfl | exact trivial | exact cellM.refl _ | exact fun _ _ _ _ => cellM.refl _ | exact fun _ => ⟨rfl, fun _ _ _ _ => cellM.refl _⟩ | refine ⟨?_, ?_⟩ | fail))
  have h1 : k < m := by have h1 : (k : Int) < (m : Int) := of_decide_eq_true h1; omega
  have hst := sortR_step FV k
  have hrow : sortR FV k [(k : Int)] = FV [(k : Int)] := by
    unfold sortR
    simp
  have hFk := hFV [(k : Int)]
  rw [← hrow] at hFk
  generalize sortR FV k = Fs at hst hFk ⊢
  have hsn : (sortL ltI 0 (Fs [(k : Int)])).Nodup := (sortL_perm _ _ _).nodup_iff.2 hFk.1
  have hsl : (sortL ltI 0 (Fs [(k : Int)])).length ≤ 12 := by rw [sortL_length]; omega
  refine W.seq (W.block ?_)
  refine W.seqR hT hHD9 rfl (by (repeat' (first | assumption | exact rfl | exact trivial | omega | (dsimp only; omega) | refine ⟨?_, ?_⟩ | intro _ | (simp_all; done) | fail))) ?_
  refine W.seqO (WO.run 4 hT hHD9 rfl rfl ⟨by omega, by omega, by omega, trivial⟩ ?_)
  refine WO.take (t := 64) (m := 0) (g := 1) (k := [(k : Int)]) rfl rfl ?_
  refine WO.run 1 hT hHD9 rfl rfl ⟨by show (Fs [(k : Int)]).length ≤ 12; omega, inG_ok _ _, trivial⟩ ?_
  refine WO.put 0 rfl (WO.done (Nat.le_refl _) ?_)
  refine W.cut (ρ := [(0, some 0), (1, some 146)]) (nx' := 2) (t := oD m (updI Fs [(k : Int)] (sortL ltI 0 (Fs [(k : Int)]))) k) ?_ ?_
  · refine ⟨by rw [hF]; rfl, ?_, ?_, rfl, rfl, rfl⟩ <;> (repeat' (first | exact rfl | exact trivial | exact cellM.refl _ | exact fun _ _ _ _ => cellM.refl _ | exact fun _ => ⟨rfl, fun _ _ _ _ => cellM.refl _⟩ | refine ⟨?_, ?_⟩ | fail))
    have e : ints (Fs [(k : Int)]).length (inG (Fs [(k : Int)])) = Fs [(k : Int)] := ints_inG _
    simp only [e]
    exact grpI_set (sortL_length ..).symm
  have hF' : updI Fs [(k : Int)] (sortL ltI 0 (Fs [(k : Int)])) [(k : Int)] = sortL ltI 0 (Fs [(k : Int)]) := by
    unfold updI
    rw [if_pos rfl]
  rw [← hF'] at hsn hsl
  rw [← hst] at hsn hsl ⊢
  clear hst hF' hFk hrow
  generalize hF2 : sortR FV (k + 1) = F2 at hsn hsl ⊢
  have e2 : ints (F2 [(k : Int)]).length (inG (F2 [(k : Int)])) = F2 [(k : Int)] := ints_inG _
  refine W.byOps (WO.run 6 hT hHD9 rfl rfl ⟨by omega, by omega, by omega, trivial⟩ ?_)
  refine WO.take (t := 71) (m := 0) (g := 1) (k := [(k : Int)]) rfl rfl ?_
  refine WO.run 1 hT hHD9 rfl rfl ⟨by show (F2 [(k : Int)]).length ≤ 1000000; omega, inG_ok _ _, ?_, trivial⟩ ?_
  · show ∀ i, i + 1 < (F2 [(k : Int)]).length → (ints (F2 [(k : Int)]).length (inG (F2 [(k : Int)]))).getD (i + 1) 0 ≠ (ints (F2 [(k : Int)]).length (inG (F2 [(k : Int)]))).getD i 0
    rw [e2]
    exact nodup_adj hsn
  refine WO.run 2 hT hHD9 rfl rfl ⟨by omega, by omega, by omega, rfl, trivial⟩ (WO.done (Nat.le_refl _) ?_)
  refine W.region hT hHD9 rfl (by (repeat' (first | assumption | exact rfl | exact trivial | omega | (dsimp only; omega) | refine ⟨?_, ?_⟩ | intro _ | (simp_all; done) | fail))) ?_
  refine ⟨⟨k + 1, by omega⟩, [(0, some 0), (1, some 146)], ?_, ?_⟩
  · dsimp only
    rw [hF2]
    refine ⟨by rw [hF]; rfl, ?_, ?_, rfl, rfl, rfl⟩ <;> (repeat' (first | exact rfl | exact trivial | exact cellM.refl _ | exact fun _ _ _ _ => cellM.refl _ | exact fun _ => ⟨rfl, fun _ _ _ _ => cellM.refl _⟩ | refine ⟨?_, ?_⟩ | fail))
    · show Value.int .i64 (IntKind.i64.wrap ((k : Int) + 1)) = Value.int .i64 ((k + 1 : Nat) : Int)
      rw [wi (by omega)]
      rfl
    · have := grpI_set (F := F2) (k0 := [(k : Int)]) (l := F2 [(k : Int)]) (n := (F2 [(k : Int)]).length) rfl
      rw [updI_self] at this
      exact this
  · dsimp only
    omega
end Go.Proofs.Ytahhejlpmacloaa

/- The walk of Allowed. -/
namespace Go.Proofs.Ytahhejlpmacloaa
open Go Go.Eng

def badP (l : List (Int × Int)) (ch : List Int) (i j : Nat) : Bool :=
  if (if decide ((stAt l i).2 < (stAt l j).2) = true then !decide ((stAt l i).1 ∈ ch) else false) = true then decide ((stAt l j).1 ∈ ch) else false
/-- What Allowed answers. -/
def allowedV (l : List (Int × Int)) (ch : List Int) : Bool := (List.range l.length).all fun i => (List.range l.length).all fun j => !badP l ch i j
theorem allowed_false {l : List (Int × Int)} {ch : List Int} {i j : Nat} (hi : i < l.length) (hj : j < l.length) (h : badP l ch i j = true) : allowedV l ch = false := by
  cases ha : allowedV l ch with
  | false => rfl
  | true =>
    have h1 := List.all_eq_true.1 ha i (List.mem_range.2 hi)
    have h2 := List.all_eq_true.1 h1 j (List.mem_range.2 hj)
    rw [h] at h2
    cases h2
theorem allowed_true {l : List (Int × Int)} {ch : List Int} (h : ∀ i, i < l.length → ∀ j, j < l.length → badP l ch i j = false) : allowedV l ch = true := by
  refine List.all_eq_true.2 fun i hi => List.all_eq_true.2 fun j hj => ?_
  rw [h i (List.mem_range.1 hi) j (List.mem_range.1 hj)]
  rfl

def HD10 : List (Nat × FSpec) := [(25, spContains)]
set_option maxRecDepth 100000 in
theorem hHD10 : GOK Try.prog HD10 := GOK.cons (enters Try.func25 rfl (by kernel_rfl)) contains_holds hG0

def alE (l : List (Int × Int)) (ch : List Int) (k : Nat) : List (Nat × AV) := [(0, .one (.c (.sl l.length 2 (stG l)))), (1, .one (.c (.sl ch.length 1 (inG ch)))), (9, .one (.c (.sl l.length 2 (stG l)))), (10, iv l.length), (11, iv k)]
def alA (l : List (Int × Int)) (ch : List Int) (k : Nat) : St := ⟨alE l ch k, []⟩
def alB (l : List (Int × Int)) (ch : List Int) (k j : Nat) : St := ⟨alE l ch k ++ [(6, .one (.ptr 0 0)), (15, .one (.c (.sl l.length 2 (stG l)))), (16, iv l.length), (17, iv j)], [(0, .box 64 [.c (.val (.int .i64 (stAt l k).1)), .c (.val (.int .i64 (stAt l k).2))])]⟩
def alC (l : List (Int × Int)) (ch : List Int) (k j : Nat) : St := ⟨alE l ch k ++ [(6, .one (.ptr 0 0)), (15, .one (.c (.sl l.length 2 (stG l)))), (16, iv l.length), (17, iv j), (8, .one (.ptr 1 0))],
  [(0, .box 64 [.c (.val (.int .i64 (stAt l k).1)), .c (.val (.int .i64 (stAt l k).2))]), (1, .box 64 [.c (.val (.int .i64 (stAt l j).1)), .c (.val (.int .i64 (stAt l j).2))])]⟩
def spAllowed : FSpec
  | [.one (.c (.sl n 2 g)), .one (.c (.sl m 1 h))], [] => some ⟨[n ≤ 1000, m ≤ 1000000, stOK n g, intsOK m h], bv' (allowedV (sts n g) (ints m h)), []⟩
  | _, _ => none

set_option maxRecDepth 100000 in
set_option maxHeartbeats 4000000 in
theorem allowed_holds : Holds Try.prog 11 spAllowed := by
  refine Holds.of hT Try.func11 rfl 41 rfl fun args bs out h hc => ?_
  unfold spAllowed at h
  split at h
  rotate_left
  · cases h
  rename_i n g m h
  simp only [Option.some.injEq] at h
  subst h
  obtain ⟨hn, hm, hg, hh, _⟩ := hc
  refine ⟨by simp, by simp [Res.live], fun F hF => ?_⟩
  have hll := sts_length n g
  have hlm := ints_length m h
  generalize hl : sts n g = l at hll ⊢
  generalize hch : ints m h = ch at hlm ⊢
  refine W.seqR hT hHD10 rfl (by (repeat' (first | assumption | exact rfl | exact trivial | omega | (dsimp only; omega) | refine ⟨?_, ?_⟩ | intro _ | (simp_all; done) | fail))) ?_
  refine W.cut (ρ := []) (nx' := 0) (t := ⟨[(0, .one (.c (.sl l.length 2 (stG l)))), (1, .one (.c (.sl ch.length 1 (inG ch))))], []⟩) ?_ ?_
  · refine ⟨by rw [hF]; rfl, ?_, ?_, rfl, rfl, rfl⟩ <;> (repeat' (first | exact rfl | exact trivial | exact cellM.refl _ | exact fun _ _ _ _ => cellM.refl _ | exact fun _ => ⟨rfl, fun _ _ _ _ => cellM.refl _⟩ | refine ⟨?_, ?_⟩ | fail))
    · exact hll.symm
    · rw [hll, ← hl]; exact sts_cell hg
    · exact hlm.symm
    · rw [hlm, ← hch]; exact ints_cell hh
  have ech : ints ch.length (inG ch) = ch := ints_inG ch
  refine W.seq (W.seqR hT hHD10 rfl (by (repeat' (first | assumption | exact rfl | exact trivial | omega | (dsimp only; omega) | refine ⟨?_, ?_⟩ | intro _ | (simp_all; done) | fail))) ?_)
  refine W.block (W.loop (γ := { k : Nat // k ≤ l.length ∧ ∀ i, i < k → ∀ j, j < l.length → badP l ch i j = false }) (fun k => alA l ch k.1) 0 (fun k => l.length - k.1) ⟨0, Nat.zero_le _, fun i hi => by omega⟩ [] ?_ ?_)
  · refine ⟨by rw [hF]; rfl, ?_, ?_, rfl, rfl, rfl⟩ <;> (repeat' (first | exact rfl | exact trivial | exact cellM.refl _ | exact fun _ _ _ _ => cellM.refl _ | exact fun _ => ⟨rfl, fun _ _ _ _ => cellM.refl _⟩ | refine ⟨?_, ?_⟩ | fail))
  rintro ⟨k, hk, hall⟩
  dsimp only at hk ⊢
  refine W.seqR hT hHD10 rfl (by (repeat' (first | assumption | exact rfl | exact trivial | omega | (dsimp only; omega) | refine ⟨?_, ?_⟩ | intro _ | (simp_all; done) | fail))) (W.seq (W.cond rfl (fun h1 => W.skip ?_) (fun h1 => W.exit ?_)))
  rotate_left
  · have h1 : k = l.length := by have h1 : ¬ (k : Int) < (l.length : Int) := of_decide_eq_false h1; omega
    subst h1
    rw [allowed_true hall]
    refine W.seqR hT hHD10 rfl (by (repeat' (first | assumption | exact rfl | exact trivial | omega | (dsimp only; omega) | refine ⟨?_, ?_⟩ | intro _ | (simp_all; done) | fail))) ?_
    refine W.ret ⟨_, [], rfl, rfl, ?_, ?_, rfl, rfl, rfl⟩ <;> (repeat' (first | exact rfl | exact trivial | exact cellM.refl _ | exact fun _ _ _ _ => cellM.refl _ | exact fun _ => ⟨rfl, fun _ _ _ _ => cellM.refl _⟩ | refine ⟨?_, ?_⟩ | fail))
  have h1 : k < l.length := by have h1 : (k : Int) < (l.length : Int) := of_decide_eq_true h1; omega
  refine W.seq (W.block ?_)
  refine W.seqR hT hHD10 rfl (by (repeat' (first | assumption | exact rfl | exact trivial | omega | (dsimp only; omega) | refine ⟨?_, ?_⟩ | intro _ | (simp_all; done) | fail))) ?_
  refine W.seqR hT hHD10 rfl (by (repeat' (first | assumption | exact rfl | exact trivial | omega | (dsimp only; omega) | refine ⟨?_, ?_⟩ | intro _ | (simp_all; done) | fail))) ?_
  refine W.block (W.loop (γ := { j : Nat // j ≤ l.length ∧ ∀ i, i < j → badP l ch k i = false }) (fun j => alB l ch k j.1) 1 (fun j => l.length - j.1) ⟨0, Nat.zero_le _, fun i hi => by omega⟩ [(0, some 48)] ?_ ?_)
  · refine ⟨by rw [hF]; rfl, ?_, ?_, rfl, rfl, rfl⟩ <;> (repeat' (first | exact rfl | exact trivial | exact cellM.refl _ | exact fun _ _ _ _ => cellM.refl _ | exact fun _ => ⟨rfl, fun _ _ _ _ => cellM.refl _⟩ | refine ⟨?_, ?_⟩ | fail))
  rintro ⟨j, hj, hjl⟩
  dsimp only at hj ⊢
  refine W.seqR hT hHD10 rfl (by (repeat' (first | assumption | exact rfl | exact trivial | omega | (dsimp only; omega) | refine ⟨?_, ?_⟩ | intro _ | (simp_all; done) | fail))) (W.seq (W.cond rfl (fun h2 => W.skip ?_) (fun h2 => W.exit ?_)))
  rotate_left
  · have h2 : j = l.length := by have h2 : ¬ (j : Int) < (l.length : Int) := of_decide_eq_false h2; omega
    subst h2
    refine W.region hT hHD10 rfl (by (repeat' (first | assumption | exact rfl | exact trivial | omega | (dsimp only; omega) | refine ⟨?_, ?_⟩ | intro _ | (simp_all; done) | fail))) ?_
    refine ⟨⟨k + 1, by omega, fun i hi => ?_⟩, [], ?_, ?_⟩
    · rcases Nat.lt_or_ge i k with h | h
      · exact hall i h
      · obtain rfl : i = k := by omega
        exact hjl
    · refine ⟨by rw [hF]; rfl, ?_, ?_, rfl, rfl, rfl⟩ <;> (repeat' (first | exact rfl | exact trivial | exact cellM.refl _ | exact fun _ _ _ _ => cellM.refl _ | exact fun _ => ⟨rfl, fun _ _ _ _ => cellM.refl _⟩ | refine ⟨?_, ?_⟩ | fail))
      show Value.int .i64 (IntKind.i64.wrap ((k : Int) + 1)) = Value.int .i64 ((k + 1 : Nat) : Int)
      rw [wi (by omega)]
      rfl
    · dsimp only
      omega
  have h2 : j < l.length := by have h2 : (j : Int) < (l.length : Int) := of_decide_eq_true h2; omega
  refine W.seq (W.block ?_)
  refine W.seqR hT hHD10 rfl (by (repeat' (first | assumption | exact rfl | exact trivial | omega | (dsimp only; omega) | refine ⟨?_, ?_⟩ | intro _ | (simp_all; done) | fail))) ?_
  refine W.cut (ρ := [(0, some 0), (1, some 49)]) (nx' := 2) (t := alC l ch k j) ?_ ?_
  · refine ⟨by rw [hF]; rfl, ?_, ?_, rfl, rfl, rfl⟩ <;> (repeat' (first | exact rfl | exact trivial | exact cellM.refl _ | exact fun _ _ _ _ => cellM.refl _ | exact fun _ => ⟨rfl, fun _ _ _ _ => cellM.refl _⟩ | refine ⟨?_, ?_⟩ | fail))
  refine W.seqR hT hHD10 rfl ?_ (W.cond rfl (fun h3 => ?_) (fun h3 => W.skip ?_))
  · exact ⟨rfl, fun _ => trivial, fun _ => trivial, fun h => ⟨h, trivial⟩, fun h => ⟨h, h, by omega, inG_ok _ _, trivial⟩, fun h => ⟨h, trivial⟩, fun h => h, fun _ => rfl, fun _ => trivial, fun _ => trivial, fun h => ⟨h, trivial⟩, fun h => ⟨h, h, by omega, inG_ok _ _, trivial⟩, fun h => h, fun _ => rfl, trivial⟩
  · have h3 : badP l ch k j = true := by
      rw [ech] at h3
      exact h3
    rw [allowed_false h1 h2 h3]
    refine W.seqR hT hHD10 rfl (by (repeat' (first | assumption | exact rfl | exact trivial | omega | (dsimp only; omega) | refine ⟨?_, ?_⟩ | intro _ | (simp_all; done) | fail))) ?_
    refine W.ret ⟨_, [], rfl, rfl, ?_, ?_, rfl, rfl, rfl⟩ <;> (repeat' (first | exact rfl | exact trivial | exact cellM.refl _ | exact fun _ _ _ _ => cellM.refl _ | exact fun _ => ⟨rfl, fun _ _ _ _ => cellM.refl _⟩ | refine ⟨?_, ?_⟩ | fail))
  · have h3 : badP l ch k j = false := by
      rw [ech] at h3
      exact h3
    refine W.region hT hHD10 rfl (by (repeat' (first | assumption | exact rfl | exact trivial | omega | (dsimp only; omega) | refine ⟨?_, ?_⟩ | intro _ | (simp_all; done) | fail))) ?_
    refine ⟨⟨j + 1, by omega, fun i hi => ?_⟩, [(0, some 0)], ?_, ?_⟩
    · rcases Nat.lt_or_ge i j with h | h
      · exact hjl i h
      · obtain rfl : i = j := by omega
        exact h3
    · refine ⟨by rw [hF]; rfl, ?_, ?_, rfl, rfl, rfl⟩ <;> (repeat' (first | exact rfl | exact trivial | exact cellM.refl _ | exact fun _ _ _ _ => cellM.refl _ | exact fun _ => ⟨rfl, fun _ _ _ _ => cellM.refl _⟩ | refine ⟨?_, ?_⟩ | fail))
      show Value.int .i64 (IntKind.i64.wrap ((j : Int) + 1)) = Value.int .i64 ((j + 1 : Nat) : Int)
      rw [wi (by omega)]
      rfl
    · dsimp only
      omega
end Go.Proofs.Ytahhejlpmacloaa

/- Plain laws: the costs that distances makes are those of the shortest ways. -/
namespace Go.Proofs.Ytahhejlpmacloaa
open Go Go.Eng

/-- A way and its cost. -/
inductive Wk (L : List Lk) (x : Int) : Int → Int → Prop
  | nil : Wk L x x 0
  | snoc {y z c d : Int} : Wk L x y c → Edge L y z d → Wk L x z (c + d)

theorem at_some {a : AM} {k : List Int} (h : a.has k = true) : ∃ v, a.at? k = some v := by
  rw [AM.has_eq] at h
  exact Option.isSome_iff_exists.1 h
theorem has_of_at {a : AM} {k : List Int} {v : Int} (h : a.at? k = some v) : a.has k = true := by
  rw [AM.has_eq, h]
  rfl
theorem has_set {a : AM} (h : a.WF) (k : List Int) (v : Int) (k' : List Int) : (a.set k v).has k' = true ↔ k' = k ∨ a.has k' = true := by
  rw [AM.has_eq, AM.at_set h, AM.has_eq]
  split
  · rename_i e
    simp [e]
  · rename_i e
    simp [e]

structure RelaxOK (u : AM) (c : Int) (l : List (Int × Int)) (o o' : AM) : Prop where
  wf : o'.WF
  back : ∀ z w, o'.at? [z] = some w → o.at? [z] = some w ∨ ∃ d, (z, d) ∈ l ∧ u.has [z] = false ∧ w = c + d
  old : ∀ z w, o.at? [z] = some w → ∃ w', o'.at? [z] = some w' ∧ w' ≤ w
  new : ∀ z d, (z, d) ∈ l → u.has [z] = true ∨ ∃ w', o'.at? [z] = some w' ∧ w' ≤ c + d

theorem relax_ok {u : AM} {c : Int} (hc : 0 ≤ c ∧ c ≤ 1000000) : ∀ (l pre : List (Int × Int)) (o0 o : AM), (∀ p ∈ l, 1 ≤ p.2 ∧ p.2 ≤ 1000) → RelaxOK u c pre o0 o → RelaxOK u c (pre ++ l) o0 (l.foldl (relax1 u c) o)
  | [], pre, o0, o, _, h => by simpa using h
  | p :: l, pre, o0, o, hp, h => by
    have hw : IntKind.i64.wrap (c + p.2) = c + p.2 := by
      have := hp p List.mem_cons_self
      exact wi (by omega)
    have step : RelaxOK u c (pre ++ [p]) o0 (relax1 u c o p) := by
      unfold relax1
      rw [hw]
      split
      · rename_i hu
        exact ⟨h.wf, fun z w hz => by
          rcases h.back z w hz with g | ⟨d, g1, g2⟩
          · exact .inl g
          · exact .inr ⟨d, List.mem_append_left _ g1, g2⟩, h.old, fun z d hz => by
          rcases List.mem_append.1 hz with hz | hz
          · exact h.new z d hz
          · obtain rfl := List.mem_singleton.1 hz
            exact .inl hu⟩
      · rename_i hu
        by_cases ht : (if (!o.has [p.1]) = true then true else decide (c + p.2 < o.get [p.1])) = true
        · rw [if_pos ht]
          have hle : ∀ w, o.at? [p.1] = some w → c + p.2 ≤ w := by
            intro w hw'
            rw [has_of_at hw'] at ht
            have hg : o.get [p.1] = w := by rw [AM.get_eq, hw']; rfl
            rw [hg] at ht
            simp at ht
            omega
          refine ⟨h.wf.set _ _, fun z w hz => ?_, fun z w hz => ?_, fun z d hz => ?_⟩
          · rw [AM.at_set h.wf] at hz
            split at hz
            · rename_i e
              injection e with e
              subst e
              injection hz with hz
              refine .inr ⟨p.2, by simp, by simpa using hu, hz.symm⟩
            · rcases h.back z w hz with g | ⟨d, g1, g2⟩
              · exact .inl g
              · exact .inr ⟨d, List.mem_append_left _ g1, g2⟩
          · obtain ⟨w', g1, g2⟩ := h.old z w hz
            rw [AM.at_set h.wf]
            split
            · rename_i e
              injection e with e
              subst e
              exact ⟨_, rfl, by have := hle w' g1; omega⟩
            · exact ⟨w', g1, g2⟩
          · rw [AM.at_set h.wf]
            rcases List.mem_append.1 hz with hz | hz
            · rcases h.new z d hz with g | ⟨w', g1, g2⟩
              · exact .inl g
              · split
                · rename_i e
                  injection e with e
                  subst e
                  exact .inr ⟨_, rfl, by have := hle w' g1; omega⟩
                · exact .inr ⟨w', g1, g2⟩
            · obtain rfl := List.mem_singleton.1 hz
              rw [if_pos rfl]
              exact .inr ⟨_, rfl, Int.le_refl _⟩
        · rw [if_neg ht]
          refine ⟨h.wf, fun z w hz => ?_, h.old, fun z d hz => ?_⟩
          · rcases h.back z w hz with g | ⟨d, g1, g2⟩
            · exact .inl g
            · exact .inr ⟨d, List.mem_append_left _ g1, g2⟩
          · rcases List.mem_append.1 hz with hz | hz
            · exact h.new z d hz
            · obtain rfl := List.mem_singleton.1 hz
              right
              have hh : o.has [z] = true := by
                cases hh : o.has [z] with
                | true => rfl
                | false => rw [hh] at ht; simp at ht
              obtain ⟨w', hw'⟩ := at_some hh
              refine ⟨w', hw', ?_⟩
              have hg : o.get [z] = w' := by rw [AM.get_eq, hw']; rfl
              rw [hh, hg] at ht
              simp at ht
              omega
    have := relax_ok hc l (pre ++ [p]) o0 (relax1 u c o p) (fun q hq => hp q (List.mem_cons_of_mem _ hq)) step
    simpa using this

/-- What holds between two rounds. -/
structure DjJ (L : List Lk) (x : Int) (a o u : AM) : Prop where
  i : DjI a o u
  oW : ∀ y v, o.at? [y] = some v → Wk L x y v ∧ 0 ≤ v ∧ v ≤ 1000 * u.es.length
  uW : ∀ y v, u.at? [y] = some v → Wk L x y v ∧ 0 ≤ v ∧ v ≤ 1000 * u.es.length
  edge : ∀ y v z d, u.at? [y] = some v → Edge L y z d → (∃ w, u.at? [z] = some w ∧ w ≤ v + d) ∨ ∃ w, o.at? [z] = some w ∧ w ≤ v + d
  le : ∀ y v z w, u.at? [y] = some v → o.at? [z] = some w → v ≤ w
  src : u.at? [x] = some 0 ∨ o.at? [x] = some 0
structure DjP (L : List Lk) (x : Int) (u : AM) : Prop where
  way : ∀ y v, u.at? [y] = some v → Wk L x y v ∧ 0 ≤ v ∧ v ≤ 24000
  src : u.at? [x] = some 0
  edge : ∀ y v z d, u.at? [y] = some v → Edge L y z d → ∃ w, u.at? [z] = some w ∧ w ≤ v + d
  wf : u.WF

theorem min_entry {o : AM} (hne : o.es.length ≠ 0) : ∃ e ∈ o.es, ∀ e' ∈ o.es, leqE e e' = true := by
  have : ∀ l : List MEnt, l ≠ [] → ∃ e ∈ l, ∀ e' ∈ l, leqE e e' = true := by
    intro l
    induction l with
    | nil => intro h; exact absurd rfl h
    | cons x l ih =>
      intro _
      by_cases hl : l = []
      · subst hl
        exact ⟨x, List.mem_cons_self, fun e' he' => by rw [List.mem_singleton.1 he']; simp [leqE]⟩
      · obtain ⟨e, he, hm⟩ := ih hl
        by_cases hx : leqE x e = true
        · exact ⟨x, List.mem_cons_self, fun e' he' => by
            rcases List.mem_cons.1 he' with rfl | he'
            · simp [leqE]
            · exact leqE_trans hx (hm e' he')⟩
        · refine ⟨e, List.mem_cons_of_mem _ he, fun e' he' => ?_⟩
          rcases List.mem_cons.1 he' with rfl | he'
          · rw [leqE_iff] at hx ⊢
            omega
          · exact hm e' he'
  exact this o.es (fun h => hne (by rw [h]; rfl))

theorem best_ok {R : List (Int × Bool)} {L : List Lk} (hv : VT R L) {o u : AM} (hi : DjI (rdAll R L).a o u) (hne : o.es.length ≠ 0) : ∃ b, bestV o = b ∧ o.at? [b] = some (o.get [b]) ∧ ∀ z w, o.at? [z] = some w → o.get [b] ≤ w := by
  obtain ⟨e, he, hm⟩ := min_entry hne
  obtain ⟨g1, _⟩ := hi.ok e he
  obtain ⟨e', he', hk'⟩ := AM.has_iff.1 g1
  obtain ⟨z, hz, hzk⟩ := (rows_ok hv).keys e' he'
  have hk : e.k = [z] := by rw [← hk', hzk]
  have hb := bestV_eq he hk hm
  have hat := AM.at_mem hi.ow he
  rw [hk] at hat
  have hg : o.get [z] = e.v := by rw [AM.get_eq, hat]; rfl
  refine ⟨z, hb, by rw [hg]; exact hat, fun y w hw => ?_⟩
  obtain ⟨e2, h2, hk2, rfl⟩ := AM.mem_at hw
  have := leqE_iff.1 (hm e2 h2)
  rw [hg]
  omega

theorem djN_ok {R : List (Int × Bool)} {L : List Lk} (hv : VT R L) {x : Int} : ∀ (n : Nat) (o u : AM), DjJ L x (rdAll R L).a o u → (rdAll R L).a.es.length < n + u.es.length → DjP L x (djN (rdAll R L).a (rowsF R L) n o u) := by
  intro n
  induction n with
  | zero =>
    intro o u h hn
    have := AM.len_le h.i.uw h.i.uk
    omega
  | succ n ih =>
    intro o u h hn
    have hal : (rdAll R L).a.es.length ≤ 24 := by
      have h1 := rdAll_a R L
      have := nodup_le (l := (rdAll R L).a.es.map (·.k)) (l' := (ids R).map fun y => [y]) h1.1.keys (fun k hk => by
        obtain ⟨e, he, rfl⟩ := List.mem_map.1 hk
        obtain ⟨z, _, hz⟩ := (rows_ok hv).keys e he
        rw [hz]
        refine List.mem_map.2 ⟨z, ?_, rfl⟩
        exact (rdAll_has hv z).1 (AM.has_iff.2 ⟨e, he, hz⟩))
      have hr := hv.nr
      simp only [List.length_map, ids] at this
      omega
    have hul := AM.len_le h.i.uw h.i.uk
    rw [djN]
    by_cases h0 : o.es.length = 0
    · rw [if_pos h0]
      have hno : ∀ z w, o.at? [z] = some w → False := by
        intro z w hz
        obtain ⟨e, he, _⟩ := AM.mem_at hz
        have := List.length_pos_of_mem he
        omega
      refine ⟨fun y v hy => ⟨(h.uW y v hy).1, (h.uW y v hy).2.1, by have := (h.uW y v hy).2.2; omega⟩, ?_, fun y v z d hy he => ?_, h.i.uw⟩
      · rcases h.src with g | g
        · exact g
        · exact (hno _ _ g).elim
      · rcases h.edge y v z d hy he with g | ⟨w, g, _⟩
        · exact g
        · exact (hno _ _ g).elim
    rw [if_neg h0]
    obtain ⟨b, hb, hbat, hmin⟩ := best_ok hv h.i h0
    rw [hb]
    obtain ⟨hbW, hb0, hbl⟩ := h.oW b _ hbat
    obtain ⟨eb, heb, hkb, _⟩ := AM.mem_at hbat
    obtain ⟨hj', hl', hle⟩ := dj_move (c := o.get [b]) h.i ⟨eb, heb, hkb⟩
    have hbu : u.has [b] = false := by have := (h.i.ok eb heb).2; rw [hkb] at this; exact this
    have hbu' : u.at? [b] = none := by
      rw [AM.has_eq] at hbu
      simpa using hbu
    generalize hc : o.get [b] = c at hbat hmin hbW hb0 hbl hj' hl' ⊢
    have u1 : ∀ y, (u.set [b] c).at? [y] = if y = b then some c else u.at? [y] := by
      intro y
      rw [AM.at_set h.i.uw]
      by_cases hy : y = b
      · subst hy; rw [if_pos rfl, if_pos rfl]
      · rw [if_neg (fun e => hy (by injection e)), if_neg hy]
    have o1 : ∀ y, (o.del [b]).at? [y] = if y = b then none else o.at? [y] := by
      intro y
      rw [AM.at_del h.i.ow]
      by_cases hy : y = b
      · subst hy; rw [if_pos rfl, if_pos rfl]
      · rw [if_neg (fun e => hy (by injection e)), if_neg hy]
    have disj : ∀ y w w', u.at? [y] = some w → o.at? [y] = some w' → False := by
      intro y w w' h1 h2
      obtain ⟨e, he, hk, _⟩ := AM.mem_at h2
      have := (h.i.ok e he).2
      rw [hk, has_of_at h1] at this
      cases this
    by_cases hfull : (u.set [b] c).es.length = (rdAll R L).a.es.length
    · rw [if_pos hfull]
      have hall : ∀ z, (rdAll R L).a.has [z] = true → ∃ w, (u.set [b] c).at? [z] = some w := by
        intro z hz
        cases hg : (u.set [b] c).at? [z] with
        | some w => exact ⟨w, rfl⟩
        | none =>
          exfalso
          have hbig : (((u.set [b] c).set [z] 0)).es.length ≤ (rdAll R L).a.es.length := by
            refine AM.len_le (hj'.uw.set _ _) (fun e he => ?_)
            rcases AM.mem_set hj'.uw e he with ⟨g1, _⟩ | ⟨_, g2⟩
            · rw [g1]; exact hz
            · exact hj'.uk e g2
          have hnot : (u.set [b] c).has [z] = false := by
            rw [AM.has_eq, hg]
            rfl
          have := AM.set_length (v := 0) hnot
          omega
      refine ⟨fun y v hy => ?_, ?_, fun y v z d hy he => ?_, hj'.uw⟩
      · rw [u1] at hy
        split at hy
        · rename_i e
          injection hy with hy
          subst e hy
          exact ⟨hbW, hb0, by omega⟩
        · exact ⟨(h.uW y v hy).1, (h.uW y v hy).2.1, by have := (h.uW y v hy).2.2; omega⟩
      · rw [u1]
        rcases h.src with g | g
        · rw [if_neg (by rintro rfl; rw [hbu'] at g; cases g)]
          exact g
        · by_cases hx : x = b
          · subst hx
            rw [if_pos rfl]
            rw [hbat] at g
            exact g
          · exfalso
            obtain ⟨e, he, hk, _⟩ := AM.mem_at g
            have hxa := (h.i.ok e he).1
            rw [hk] at hxa
            obtain ⟨w, hw⟩ := hall x hxa
            rw [u1, if_neg hx] at hw
            exact disj x w 0 hw g
      · have hz := (rdAll_has hv z).2 (edge_ids hv he).2.1
        have hyz := (edge_ids hv he).2.2.1
        have hd1 := (edge_ids hv he).2.2.2.1
        obtain ⟨w, hw⟩ := hall z hz
        refine ⟨w, hw, ?_⟩
        rw [u1] at hy hw
        split at hy
        · rename_i e
          injection hy with hy
          subst e hy
          rw [if_neg (fun e => hyz e.symm)] at hw
          have := h.le z w _ _ hw hbat
          omega
        · rcases h.edge y v z d hy he with ⟨w', g1, g2⟩ | ⟨w', g1, g2⟩
          · rw [if_neg (by rintro rfl; rw [hbu'] at g1; cases g1), g1] at hw
            injection hw with hw
            omega
          · split at hw
            · rename_i e
              subst e
              rw [hbat] at g1
              injection g1 with g1
              injection hw with hw
              omega
            · exact (disj z w w' hw g1).elim
    rw [if_neg hfull]
    have hrow : ∀ p ∈ rowsF R L [b], 1 ≤ p.2 ∧ p.2 ≤ 1000 := by
      rintro ⟨z, d⟩ hp
      exact (edge_ids hv (rowsF_mem.1 hp)).2.2.2
    have hc6 : 0 ≤ c ∧ c ≤ 1000000 := by omega
    have hrel := relax_ok (u := u.set [b] c) hc6 (rowsF R L [b]) [] (o.del [b]) (o.del [b]) hrow ⟨hj'.ow, fun z w hz => .inl hz, fun z w hz => ⟨w, hz, Int.le_refl _⟩, fun z d hz => by cases hz⟩
    rw [List.nil_append] at hrel
    have hK : relaxK (u.set [b] c) c (rowsF R L [b]) (o.del [b]) (rowsF R L [b]).length = (rowsF R L [b]).foldl (relax1 (u.set [b] c) c) (o.del [b]) := by
      rw [relaxK, List.take_length]
    have hI : DjI (rdAll R L).a (relaxK (u.set [b] c) c (rowsF R L [b]) (o.del [b]) (rowsF R L [b]).length) (u.set [b] c) := relaxK_inv hj' ((rows_ok hv).to [b]) _
    refine ih _ _ ?_ (by omega)
    rw [hK] at hI ⊢
    generalize (rowsF R L [b]).foldl (relax1 (u.set [b] c) c) (o.del [b]) = o2 at hrel hI ⊢
    have hu1b : (u.set [b] c).has [b] = true := has_of_at (v := c) (by rw [u1, if_pos rfl])
    refine ⟨hI, fun y v hy => ?_, fun y v hy => ?_, fun y v z d hy he => ?_, fun y v z w hy hz => ?_, ?_⟩
    · rcases hrel.back y v hy with g | ⟨d, g1, _, rfl⟩
      · rw [o1] at g
        split at g
        · cases g
        · obtain ⟨k1, k2, k3⟩ := h.oW y v g
          exact ⟨k1, k2, by omega⟩
      · have he := rowsF_mem.1 g1
        have hd := (edge_ids hv he).2.2.2
        exact ⟨hbW.snoc he, by omega, by omega⟩
    · rw [u1] at hy
      split at hy
      · rename_i e
        injection hy with hy
        subst e hy
        exact ⟨hbW, hb0, by omega⟩
      · obtain ⟨k1, k2, k3⟩ := h.uW y v hy
        exact ⟨k1, k2, by omega⟩
    · have hyz := (edge_ids hv he).2.2.1
      have hd1 := (edge_ids hv he).2.2.2.1
      rw [u1] at hy
      split at hy
      · rename_i e
        injection hy with hy
        subst e hy
        rcases hrel.new z d (rowsF_mem.2 he) with g | g
        · left
          obtain ⟨w, hw⟩ := at_some g
          refine ⟨w, hw, ?_⟩
          rw [u1, if_neg (fun e => hyz e.symm)] at hw
          have := h.le z w _ _ hw hbat
          omega
        · exact .inr g
      · rcases h.edge y v z d hy he with ⟨w', g1, g2⟩ | ⟨w', g1, g2⟩
        · left
          refine ⟨w', ?_, g2⟩
          rw [u1, if_neg (by rintro rfl; rw [hbu'] at g1; cases g1)]
          exact g1
        · by_cases hzb : z = b
          · subst hzb
            rw [hbat] at g1
            injection g1 with g1
            exact .inl ⟨c, by rw [u1, if_pos rfl], by omega⟩
          · obtain ⟨w2, k1, k2⟩ := hrel.old z w' (by rw [o1, if_neg hzb]; exact g1)
            exact .inr ⟨w2, k1, by omega⟩
    · have hcw : c ≤ w := by
        rcases hrel.back z w hz with g | ⟨d, g1, _, rfl⟩
        · rw [o1] at g
          split at g
          · cases g
          · exact hmin z w g
        · have := (edge_ids hv (rowsF_mem.1 g1)).2.2.2
          omega
      rw [u1] at hy
      split at hy
      · injection hy with hy
        omega
      · have := h.le y v b c hy hbat
        omega
    · rcases h.src with g | g
      · left
        rw [u1, if_neg (by rintro rfl; rw [hbu'] at g; cases g)]
        exact g
      · by_cases hx : x = b
        · subst hx
          left
          rw [u1, if_pos rfl]
          rw [hbat] at g
          exact g
        · right
          obtain ⟨w', k1, k2⟩ := hrel.old x 0 (by rw [o1, if_neg hx]; exact g)
          have hw0 : 0 ≤ w' := by
            rcases hrel.back x w' k1 with g' | ⟨d, g1, _, rfl⟩
            · rw [o1, if_neg hx, g] at g'
              injection g' with g'
              omega
            · have := (edge_ids hv (rowsF_mem.1 g1)).2.2.2
              omega
          have : w' = 0 := by omega
          rw [← this]
          exact k1

/-- The costs from a router of a valid topology. -/
theorem dist_ok {R : List (Int × Bool)} {L : List Lk} (hv : VT R L) {x : Int} (hx : x ∈ ids R) : DjP L x (distA R L x) := by
  have hxa := (rdAll_has hv x).2 hx
  unfold distA distV
  rw [if_pos (by rw [AM.hasR_eq]; exact hxa)]
  have hw0 : a0.WF := ⟨List.nodup_nil, List.nodup_nil, fun e he => by cases he⟩
  have hat : ∀ y, (a0.set [x] 0).at? [y] = if y = x then some 0 else none := by
    intro y
    rw [AM.at_set hw0]
    by_cases hy : y = x
    · subst hy; rw [if_pos rfl, if_pos rfl]
    · rw [if_neg (fun e => hy (by injection e)), if_neg hy]; rfl
  refine djN_ok hv _ _ _ ⟨⟨hw0.set _ _, hw0, fun e he => ?_, fun e he => by cases he⟩, fun y v hy => ?_, fun y v hy => (by cases hy), fun y v z d hy => (by cases hy), fun y v z w hy => (by cases hy), .inr (by rw [hat, if_pos rfl])⟩ (by simp [a0])
  · rcases AM.mem_set hw0 e he with ⟨h, _⟩ | ⟨_, h⟩
    · rw [h]
      exact ⟨hxa, rfl⟩
    · cases h
  · rw [hat] at hy
    split at hy
    · rename_i e
      injection hy with hy
      subst e hy
      exact ⟨.nil, Int.le_refl _, by simp [a0]⟩
    · cases hy
theorem dist_le {R : List (Int × Bool)} {L : List Lk} (hv : VT R L) {x : Int} (hx : x ∈ ids R) {y c : Int} (h : Wk L x y c) : ∃ w, (distA R L x).at? [y] = some w ∧ w ≤ c := by
  have hp := dist_ok hv hx
  induction h with
  | nil => exact ⟨0, hp.src, Int.le_refl _⟩
  | snoc _ he ih =>
    obtain ⟨v, h1, h2⟩ := ih
    obtain ⟨w, h3, h4⟩ := hp.edge _ v _ _ h1 he
    exact ⟨w, h3, by omega⟩
end Go.Proofs.Ytahhejlpmacloaa
