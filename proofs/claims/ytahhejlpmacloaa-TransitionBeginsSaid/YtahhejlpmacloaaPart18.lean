/- The walk of behind. -/
import Derived.Test.YtahhejlpmacloaaPart17
import Derived.Test.YtahhejlpmacloaaPart10
namespace Go.Proofs.Ytahhejlpmacloaa
open Go Go.Eng

/-! ### rows of ints under keys -/
abbrev RowsI := List Int → List Int
def updI (F : RowsI) (k : List Int) (l : List Int) : RowsI := fun k' => if k' = k then l else F k'
def addI (F : RowsI) (k : List Int) (x : Int) : RowsI := updI F k (F k ++ [x])

theorem in_app {l : List Int} {x : Int} {cs : List Cell} (hx : cs = [.val (.int .i64 x)]) : ∀ i, i < (l ++ [x]).length → ∀ j, j < 1 → cellM (joinGet l.length (inG l) (cellAt cs 1) i j) (inG (l ++ [x]) i j) := by
  intro i hi j hj
  subst hx
  simp at hi
  obtain rfl : j = 0 := by omega
  unfold joinGet
  split
  · rename_i h
    have e : (l ++ [x]).getD i 0 = l.getD i 0 := by simp [List.getD_eq_getElem?_getD, List.getElem?_append, h]
    simp only [inG, e]
    exact cellM.refl _
  · obtain rfl : i = l.length := by omega
    have e : (l ++ [x]).getD l.length 0 = x := by simp [List.getD_eq_getElem?_getD]
    rw [Nat.sub_self]
    simp only [inG, e]
    exact cellM.refl _
theorem grpI_add {F : RowsI} {k0 : List Int} {x : Int} {cs : List Cell} (hx : cs = [.val (.int .i64 x)]) :
    ∀ k, (updF (updF (fun k => ((F k).length, inG (F k))) k0 nilRow) k0 ((F k0).length + 1, joinGet (F k0).length (inG (F k0)) (cellAt cs 1)) k).1 = (addI F k0 x k).length ∧
      ∀ i, i < (addI F k0 x k).length → ∀ j, j < 1 → cellM ((updF (updF (fun k => ((F k).length, inG (F k))) k0 nilRow) k0 ((F k0).length + 1, joinGet (F k0).length (inG (F k0)) (cellAt cs 1)) k).2 i j) (inG (addI F k0 x k) i j) := by
  intro k
  unfold addI updI updF
  by_cases h : k = k0
  · rw [if_pos h, if_pos h]
    exact ⟨by simp, fun i hi j hj => in_app hx i hi j hj⟩
  · rw [if_neg h, if_neg h, if_neg h]
    exact ⟨rfl, fun _ _ _ _ => cellM.refl _⟩

/-! ### what behind comes to -/
structure BhS where
  a : AM
  G : RowsI
def bh0 : BhS := ⟨a0, fun _ => []⟩
def bhPut (s : BhS) (x y : Int) : BhS := ⟨s.a.setR [x], addI s.G [x] y⟩
/-- A way from x to y over a link at the cost c, the hop's f and t, its cost h, the end d. -/
structure Tri where
  x : Int
  y : Int
  c : Int
def bhT (m : AM) (f t h d : Int) (G : RowsI) (e : Tri) : Bool :=
  if (if (if (if (e.x != f) = true then thrV m e.x d e.x e.y e.c else false) = true then thrV m e.x d f t h else false) = true then thrV m e.y d f t h else false) = true then !decide (e.y ∈ G [e.x]) else false
def bhStep (m : AM) (f t h d : Int) (s : BhS) (e : Tri) : BhS := if bhT m f t h d s.G e = true then bhPut s e.x e.y else s
def tris (l : Lk) : List Tri := [⟨l.a, l.b, l.ca⟩, ⟨l.b, l.a, l.cb⟩]
def bhL (m : AM) (f t h d : Int) (s : BhS) (l : Lk) : BhS := (tris l).foldl (bhStep m f t h d) s
def bhD (m : AM) (f t h : Int) (L : List Lk) (s : BhS) (r : Int × Bool) : BhS := L.foldl (bhL m f t h r.1) s
def bhH (R : List (Int × Bool)) (L : List Lk) (m : AM) (s : BhS) (p : Int × Int) : BhS :=
  if (costV R L p.1 p.2).2 = true then R.foldl (bhD m p.1 p.2 (costV R L p.1 p.2).1 L) s else s
def bhV (R : List (Int × Bool)) (L : List Lk) (H : List (Int × Int)) : BhS := H.foldl (bhH R L (allA R L)) bh0

theorem fold_step {α β : Type} (g : α → β → α) (s : α) {l : List β} {k : Nat} (hk : k < l.length) : (l.take (k + 1)).foldl g s = g ((l.take k).foldl g s) l[k] := by
  rw [List.take_succ_eq_append_getElem hk, List.foldl_append]
  rfl
theorem fold_inv {α β : Type} {g : α → β → α} (I : α → Prop) {l : List β} (h : ∀ s, ∀ x ∈ l, I s → I (g s x)) : ∀ {s : α}, I s → I (l.foldl g s) := by
  induction l with
  | nil => exact fun h => h
  | cons x l ih => exact fun hs => ih (fun s y hy => h s y (List.mem_cons_of_mem _ hy)) (h _ x List.mem_cons_self hs)

/-- The rows are short: no router twice, each an end of a link. -/
def endsL (L : List Lk) : List Int := L.flatMap fun l => [l.a, l.b]
theorem endsL_length (L : List Lk) : (endsL L).length = 2 * L.length := by
  induction L with
  | nil => rfl
  | cons l L ih =>
    simp only [endsL, List.flatMap_cons, List.length_append, List.length_cons, List.length_nil] at ih ⊢
    omega
def BhOK (L : List Lk) (s : BhS) : Prop := ∀ k, (s.G k).Nodup ∧ ∀ y ∈ s.G k, y ∈ endsL L
theorem bhOK_len {L : List Lk} {s : BhS} (h : BhOK L s) (k : List Int) : (s.G k).length ≤ 2 * L.length := by
  have := nodup_leI (h k).1 (h k).2
  rwa [endsL_length] at this
theorem bhT_not {m : AM} {f t h d : Int} {G : RowsI} {e : Tri} (ht : bhT m f t h d G e = true) : e.y ∉ G [e.x] := by
  unfold bhT at ht
  split at ht
  · simp at ht
    exact ht.2
  · cases ht
theorem bhOK_step {L : List Lk} {m : AM} {f t h d : Int} {s : BhS} {e : Tri} (hs : BhOK L s) (he : e.y ∈ endsL L) : BhOK L (bhStep m f t h d s e) := by
  unfold bhStep
  split
  · rename_i ht
    have hn := bhT_not ht
    intro k
    show (addI s.G [e.x] e.y k).Nodup ∧ ∀ y ∈ addI s.G [e.x] e.y k, y ∈ endsL L
    unfold addI updI
    split
    · refine ⟨?_, fun y hy => ?_⟩
      · rw [List.nodup_append]
        refine ⟨(hs _).1, by simp, fun a ha b hb hab => ?_⟩
        rw [List.mem_singleton.1 hb] at hab
        subst hab
        exact hn ha
      · rcases List.mem_append.1 hy with hy | hy
        · exact (hs _).2 y hy
        · rw [List.mem_singleton.1 hy]; exact he
    · exact hs k
  · exact hs
theorem tris_ends {L : List Lk} {l : Lk} (hl : l ∈ L) : ∀ e ∈ tris l, e.y ∈ endsL L := by
  intro e he
  refine List.mem_flatMap.2 ⟨l, hl, ?_⟩
  simp only [tris, List.mem_cons, List.not_mem_nil, or_false] at he
  rcases he with rfl | rfl
  · simp
  · simp
theorem bhOK_L {L : List Lk} {m : AM} {f t h d : Int} {s : BhS} {l : Lk} (hs : BhOK L s) (hl : l ∈ L) : BhOK L (bhL m f t h d s l) :=
  fold_inv (BhOK L) (fun _ e he hs => bhOK_step hs (tris_ends hl e he)) hs
theorem bhOK_D {L : List Lk} {m : AM} {f t h : Int} {s : BhS} {r : Int × Bool} (hs : BhOK L s) : BhOK L (bhD m f t h L s r) :=
  fold_inv (BhOK L) (fun _ _ hl hs => bhOK_L hs hl) hs
theorem bhOK_H {R : List (Int × Bool)} {L : List Lk} {m : AM} {s : BhS} {p : Int × Int} (hs : BhOK L s) : BhOK L (bhH R L m s p) := by
  unfold bhH
  split
  · exact fold_inv (BhOK L) (fun _ _ _ hs => bhOK_D hs) hs
  · exact hs
theorem bhOK_0 (L : List Lk) : BhOK L bh0 := fun k => ⟨List.nodup_nil, fun y hy => by cases hy⟩

/-! ### the walk -/
def triAt (l : List Tri) (i : Nat) : Tri := l.getD i ⟨0, 0, 0⟩
def triG (l : List Tri) (i j : Nat) : Cell := match j with
  | 0 => .val (.int .i64 (triAt l i).x)
  | 1 => .val (.int .i64 (triAt l i).y)
  | _ => .val (.int .i64 (triAt l i).c)
def HD3 : List (Nat × FSpec) := [(30, spAll), (31, spThr), (29, spCost), (25, spContains)]
set_option maxRecDepth 100000 in
theorem hHD3 : GOK Try.prog HD3 := GOK.cons (enters Try.func30 rfl (by kernel_rfl)) all_holds (GOK.cons (enters Try.func31 rfl (by kernel_rfl)) thr_holds (GOK.cons (enters Try.func29 rfl (by kernel_rfl)) cost_holds (GOK.cons (enters Try.func25 rfl (by kernel_rfl)) contains_holds hG0)))

def bhMem (R : List (Int × Bool)) (L : List Lk) (m : AM) (s : BhS) : List (Nat × Res) := [(0, topoB R L), (1, .mapR 1 2 none s.a), (2, .grp 3 1 (fun k => ((s.G k).length, inG (s.G k)))), (3, .mapI 2 0 m)]
def bhE0 : List (Nat × AV) := [(2, .one (.ptr 0 0)), (5, .one (.map 1)), (6, .one (.map 3))]
def bhE1 (H : List (Int × Int)) (k : Nat) : List (Nat × AV) := bhE0 ++ [(21, .one (.c (.sl H.length 2 (stG H)))), (22, iv H.length), (23, iv k)]
def bA (R : List (Int × Bool)) (L : List Lk) (m : AM) (H : List (Int × Int)) (s : BhS) (k : Nat) : St := ⟨bhE1 H k, bhMem R L m s⟩
def bB (R : List (Int × Bool)) (L : List Lk) (m : AM) (H : List (Int × Int)) (s : BhS) (k : Nat) (p : Int × Int) : St :=
  ⟨bhE1 H k ++ [(8, .one (.ptr 4 0))], bhMem R L m s ++ [(4, .box 72 [.c (.val (.int .i64 p.1)), .c (.val (.int .i64 p.2))])]⟩
def bhE2 (R : List (Int × Bool)) (H : List (Int × Int)) (k : Nat) (h : Int) (i : Nat) : List (Nat × AV) := bhE1 H k ++ [(8, .one (.ptr 4 0)), (9, iv h), (39, .one (.c (.sl R.length 2 (rtL R)))), (40, iv R.length), (41, iv i)]
def bC (R : List (Int × Bool)) (L : List Lk) (m : AM) (H : List (Int × Int)) (s : BhS) (k : Nat) (p : Int × Int) (h : Int) (i : Nat) : St :=
  ⟨bhE2 R H k h i, bhMem R L m s ++ [(4, .box 72 [.c (.val (.int .i64 p.1)), .c (.val (.int .i64 p.2))])]⟩
def bD (R : List (Int × Bool)) (L : List Lk) (m : AM) (H : List (Int × Int)) (s : BhS) (k : Nat) (p : Int × Int) (h : Int) (i : Nat) (r : Int × Bool) (j : Nat) : St :=
  ⟨bhE2 R H k h i ++ [(12, .one (.ptr 5 0)), (46, .one (.c (.sl L.length 5 (lkG L)))), (47, iv L.length), (48, iv j)],
    bhMem R L m s ++ [(4, .box 72 [.c (.val (.int .i64 p.1)), .c (.val (.int .i64 p.2))]), (5, .box 47 [.c (.val (.int .i64 r.1)), .c (.val (.bool r.2))])]⟩
def bEe (R : List (Int × Bool)) (L : List Lk) (H : List (Int × Int)) (k : Nat) (h : Int) (i j q : Nat) : List (Nat × AV) := bhE2 R H k h i ++ [(12, .one (.ptr 5 0)), (46, .one (.c (.sl L.length 5 (lkG L)))), (47, iv L.length), (48, iv j), (66, .one (.own 6)), (67, iv 2), (68, iv q)]
def bEm (R : List (Int × Bool)) (L : List Lk) (m : AM) (s : BhS) (p : Int × Int) (r : Int × Bool) (l : Lk) : List (Nat × Res) :=
  bhMem R L m s ++ [(4, .box 72 [.c (.val (.int .i64 p.1)), .c (.val (.int .i64 p.2))]), (5, .box 47 [.c (.val (.int .i64 r.1)), .c (.val (.bool r.2))]), (6, .row 77 3 2 (triG (tris l)))]
def bE (R : List (Int × Bool)) (L : List Lk) (m : AM) (H : List (Int × Int)) (s : BhS) (k : Nat) (p : Int × Int) (h : Int) (i : Nat) (r : Int × Bool) (j : Nat) (l : Lk) (q : Nat) : St := ⟨bEe R L H k h i j q, bEm R L m s p r l⟩
def bF (R : List (Int × Bool)) (L : List Lk) (m : AM) (H : List (Int × Int)) (s : BhS) (k : Nat) (p : Int × Int) (h : Int) (i : Nat) (r : Int × Bool) (j : Nat) (l : Lk) (q : Nat) (e : Tri) : St :=
  ⟨bEe R L H k h i j q ++ [(16, .one (.ptr 7 0))], bEm R L m s p r l ++ [(7, .box 77 [.c (.val (.int .i64 e.x)), .c (.val (.int .i64 e.y)), .c (.val (.int .i64 e.c))])]⟩
def bB2 (R : List (Int × Bool)) (L : List Lk) (m : AM) (H : List (Int × Int)) (s : BhS) (k : Nat) (p : Int × Int) (c : Int × Bool) : St :=
  ⟨bhE1 H k ++ [(8, .one (.ptr 4 0)), (9, iv c.1), (10, bv c.2)], bhMem R L m s ++ [(4, .box 72 [.c (.val (.int .i64 p.1)), .c (.val (.int .i64 p.2))])]⟩

def spBehind : FSpec
  | [.agg [.c (.sl nr 2 rt), .c (.sl nl 5 lk)], .one (.c (.sl nh 2 hg))], [] =>
    some ⟨[nr ≤ 12, nl ≤ 1000, nh ≤ 1000, rtOK nr rt, lkOK nl lk, stOK nh hg], .one (.map 0),
      [(0, .mapR 1 1 none (bhV (rts nr rt) (lks nl lk) (sts nh hg)).a), (1, .grp 3 1 (fun k => (((bhV (rts nr rt) (lks nl lk) (sts nh hg)).G k).length, inG ((bhV (rts nr rt) (lks nl lk) (sts nh hg)).G k))))]⟩
  | _, _ => none

set_option maxRecDepth 100000 in
set_option maxHeartbeats 4000000 in
theorem behind_holds : Holds Try.prog 19 spBehind := by
  refine Holds.of hT Try.func19 rfl 139 rfl fun args bs out h hc => ?_
  unfold spBehind at h
  split at h
  rotate_left
  · cases h
  rename_i nr rt nl lk nh hg
  simp only [Option.some.injEq] at h
  subst h
  obtain ⟨hn1, hn2, hn3, hr, hl, hh, _⟩ := hc
  refine ⟨by simp, by simp [Res.live], fun F hF => ?_⟩
  have hlr := rts_length nr rt
  have hll := lks_length nl lk
  have hlh := sts_length nh hg
  generalize hR : rts nr rt = R at hlr ⊢
  generalize hL : lks nl lk = L at hll ⊢
  generalize hH : sts nh hg = H at hlh ⊢
  refine W.seqR hT hHD3 rfl (by (repeat' (first | assumption | exact rfl | exact trivial | omega | (dsimp only; omega) | refine ⟨?_, ?_⟩ | intro _ | (simp_all; done) | fail))) ?_
  refine W.seqR hT hHD3 rfl (by (repeat' (first | assumption | exact rfl | exact trivial | omega | (dsimp only; omega) | refine ⟨?_, ?_⟩ | intro _ | (simp_all; done) | fail))) ?_
  refine W.cut (ρ := [(0, some 0), (1, some 32), (2, some 33)]) (nx' := 3) (t := ⟨[(2, .one (.ptr 0 0)), (5, .one (.map 1)), (1, .one (.c (.sl H.length 2 (stG H))))], [(0, topoB R L), (1, .mapR 1 2 none a0), (2, .grp 3 1 (fun _ => (0, inG [])))]⟩) ?_ ?_
  · refine ⟨by rw [hF]; rfl, ?_, ?_, rfl, rfl, rfl⟩ <;> (repeat' (first | exact rfl | exact trivial | exact cellM.refl _ | exact fun _ _ _ _ => cellM.refl _ | exact fun _ => ⟨rfl, fun _ _ _ _ => cellM.refl _⟩ | refine ⟨?_, ?_⟩ | fail))
    · exact hlh.symm
    · rw [hlh, ← hH]; exact sts_cell hh
    · exact hlr.symm
    · rw [hlr, ← hR]; exact rts_cell hr
    · exact hll.symm
    · rw [hll, ← hL]; exact lks_cell hl
    · exact fun k => ⟨rfl, fun i hi => absurd hi (Nat.not_lt_zero i)⟩
  have eR := rts_rtL R
  have eL := lks_lkG' L
  have okR := rtL_ok R R.length
  have okL := lkG_ok L L.length
  refine W.seqR hT hHD3 rfl (by exact ⟨by omega, by omega, okR, okL, trivial⟩) ?_
  refine W.cut (ρ := [(0, some 0), (1, some 1), (2, some 2), (3, some 19)]) (nx' := 4) (t := ⟨bhE0 ++ [(1, .one (.c (.sl H.length 2 (stG H))))], bhMem R L (allA R L) bh0⟩) ?_ ?_
  · refine ⟨by rw [hF]; rfl, ?_, ?_, rfl, rfl, rfl⟩ <;> (repeat' (first | exact rfl | exact trivial | exact cellM.refl _ | exact fun _ _ _ _ => cellM.refl _ | exact fun _ => ⟨rfl, fun _ _ _ _ => cellM.refl _⟩ | refine ⟨?_, ?_⟩ | fail))
    rw [eR, eL]
  have hV : bhV R L H = H.foldl (bhH R L (allA R L)) bh0 := rfl
  generalize allA R L = m at hV ⊢
  refine W.seq (W.seqR hT hHD3 rfl (by (repeat' (first | assumption | exact rfl | exact trivial | omega | (dsimp only; omega) | refine ⟨?_, ?_⟩ | intro _ | (simp_all; done) | fail))) ?_)
  refine W.block (W.loop (γ := { k : Nat // k ≤ H.length }) (fun k => bA R L m H ((H.take k.1).foldl (bhH R L m) bh0) k.1) 4 (fun k => H.length - k.1) ⟨0, Nat.zero_le _⟩ [(0, some 0), (1, some 1), (2, some 2), (3, some 3)] ?_ ?_)
  · refine ⟨by rw [hF]; rfl, ?_, ?_, rfl, rfl, rfl⟩ <;> (repeat' (first | exact rfl | exact trivial | exact cellM.refl _ | exact fun _ _ _ _ => cellM.refl _ | exact fun _ => ⟨rfl, fun _ _ _ _ => cellM.refl _⟩ | refine ⟨?_, ?_⟩ | fail))
  rintro ⟨k, hk⟩
  dsimp only at hk ⊢
  refine W.seqR hT hHD3 rfl (by (repeat' (first | assumption | exact rfl | exact trivial | omega | (dsimp only; omega) | refine ⟨?_, ?_⟩ | intro _ | (simp_all; done) | fail))) (W.seq (W.cond rfl (fun h1 => W.skip ?_) (fun h1 => W.exit ?_)))
  rotate_left
  · have h1 : k = H.length := by have h1 : ¬ (k : Int) < (H.length : Int) := of_decide_eq_false h1; omega
    subst h1
    rw [List.take_length, ← hV]
    refine W.seqR hT hHD3 rfl (by (repeat' (first | assumption | exact rfl | exact trivial | omega | (dsimp only; omega) | refine ⟨?_, ?_⟩ | intro _ | (simp_all; done) | fail))) ?_
    refine W.ret ⟨_, [(0, some 1), (1, some 2)], rfl, rfl, ?_, ?_, rfl, rfl, rfl⟩ <;> (repeat' (first | exact rfl | exact trivial | exact cellM.refl _ | exact fun _ _ _ _ => cellM.refl _ | exact fun _ => ⟨rfl, fun _ _ _ _ => cellM.refl _⟩ | refine ⟨?_, ?_⟩ | fail))
  have h1 : k < H.length := by have h1 : (k : Int) < (H.length : Int) := of_decide_eq_true h1; omega
  have hst := fold_step (bhH R L m) bh0 h1
  have hinv : BhOK L ((H.take k).foldl (bhH R L m) bh0) := fold_inv (BhOK L) (fun _ _ _ hs => bhOK_H hs) (bhOK_0 L)
  generalize (H.take k).foldl (bhH R L m) bh0 = s0 at hst hinv ⊢
  have hp0 : H[k] = stAt H k := by simp [stAt, h1]
  rw [hp0] at hst
  have wk : Value.int .i64 (IntKind.i64.wrap ((k : Int) + 1)) = Value.int .i64 ((k + 1 : Nat) : Int) := by
    rw [wi (by omega)]
    rfl
  refine W.seq (W.block ?_)
  refine W.seqR hT hHD3 rfl (by (repeat' (first | assumption | exact rfl | exact trivial | omega | (dsimp only; omega) | refine ⟨?_, ?_⟩ | intro _ | (simp_all; done) | fail))) ?_
  refine W.cut (ρ := [(0, some 0), (1, some 1), (2, some 2), (3, some 3), (4, some 52)]) (nx' := 5) (t := bB R L m H s0 k (stAt H k)) ?_ ?_
  · refine ⟨by rw [hF]; rfl, ?_, ?_, rfl, rfl, rfl⟩ <;> (repeat' (first | exact rfl | exact trivial | exact cellM.refl _ | exact fun _ _ _ _ => cellM.refl _ | exact fun _ => ⟨rfl, fun _ _ _ _ => cellM.refl _⟩ | refine ⟨?_, ?_⟩ | fail))
  generalize stAt H k = p at hst ⊢
  refine W.seqR hT hHD3 rfl (by exact ⟨by omega, by omega, okR, okL, trivial⟩) ?_
  refine W.cut (ρ := [(0, some 0), (1, some 1), (2, some 2), (3, some 3), (4, some 4)]) (nx' := 5) (t := bB2 R L m H s0 k p (costV R L p.1 p.2)) ?_ ?_
  · refine ⟨by rw [hF]; rfl, ?_, ?_, rfl, rfl, rfl⟩ <;> (repeat' (first | exact rfl | exact trivial | exact cellM.refl _ | exact fun _ _ _ _ => cellM.refl _ | exact fun _ => ⟨rfl, fun _ _ _ _ => cellM.refl _⟩ | refine ⟨?_, ?_⟩ | fail))
    · show Value.int .i64 (costV (rts R.length (rtL R)) (lks L.length (lkG L)) p.1 p.2).1 = Value.int .i64 (costV R L p.1 p.2).1
      rw [eR, eL]
    · show Value.bool (costV (rts R.length (rtL R)) (lks L.length (lkG L)) p.1 p.2).2 = Value.bool (costV R L p.1 p.2).2
      rw [eR, eL]
  have hbh : bhH R L m s0 p = if (costV R L p.1 p.2).2 = true then R.foldl (bhD m p.1 p.2 (costV R L p.1 p.2).1 L) s0 else s0 := rfl
  rw [hbh] at hst
  clear hbh
  generalize costV R L p.1 p.2 = cv at hst ⊢
  obtain ⟨h, th⟩ := cv
  dsimp only at hst
  refine W.seq (W.seqR hT hHD3 rfl (by (repeat' (first | assumption | exact rfl | exact trivial | omega | (dsimp only; omega) | refine ⟨?_, ?_⟩ | intro _ | (simp_all; done) | fail))) (W.cond rfl (fun h2 => ?_) (fun h2 => W.skip ?_)))
  · have h2 : th = false := by simpa using h2
    rw [h2, if_neg Bool.false_ne_true] at hst
    refine W.exit ?_
    refine W.region hT hHD3 rfl (by (repeat' (first | assumption | exact rfl | exact trivial | omega | (dsimp only; omega) | refine ⟨?_, ?_⟩ | intro _ | (simp_all; done) | fail))) ?_
    refine ⟨⟨k + 1, by omega⟩, [(0, some 0), (1, some 1), (2, some 2), (3, some 3)], ?_, ?_⟩
    · dsimp only
      rw [hst]
      refine ⟨by rw [hF]; rfl, ?_, ?_, rfl, rfl, rfl⟩ <;> (repeat' (first | exact rfl | exact trivial | exact cellM.refl _ | exact fun _ _ _ _ => cellM.refl _ | exact fun _ => ⟨rfl, fun _ _ _ _ => cellM.refl _⟩ | refine ⟨?_, ?_⟩ | fail))
      exact wk
    · dsimp only
      omega
  have h2 : th = true := by simpa using h2
  rw [h2, if_pos rfl] at hst
  refine W.seqR hT hHD3 rfl (by (repeat' (first | assumption | exact rfl | exact trivial | omega | (dsimp only; omega) | refine ⟨?_, ?_⟩ | intro _ | (simp_all; done) | fail))) ?_
  refine W.block (W.loop (γ := { i : Nat // i ≤ R.length }) (fun i => bC R L m H ((R.take i.1).foldl (bhD m p.1 p.2 h L) s0) k p h i.1) 5 (fun i => R.length - i.1) ⟨0, Nat.zero_le _⟩ [(0, some 0), (1, some 1), (2, some 2), (3, some 3), (4, some 4)] ?_ ?_)
  · refine ⟨by rw [hF]; rfl, ?_, ?_, rfl, rfl, rfl⟩ <;> (repeat' (first | exact rfl | exact trivial | exact cellM.refl _ | exact fun _ _ _ _ => cellM.refl _ | exact fun _ => ⟨rfl, fun _ _ _ _ => cellM.refl _⟩ | refine ⟨?_, ?_⟩ | fail))
  rintro ⟨i, hi⟩
  dsimp only at hi ⊢
  refine W.seqR hT hHD3 rfl (by (repeat' (first | assumption | exact rfl | exact trivial | omega | (dsimp only; omega) | refine ⟨?_, ?_⟩ | intro _ | (simp_all; done) | fail))) (W.seq (W.cond rfl (fun h3 => W.skip ?_) (fun h3 => W.exit ?_)))
  rotate_left
  · have h3 : i = R.length := by have h3 : ¬ (i : Int) < (R.length : Int) := of_decide_eq_false h3; omega
    subst h3
    rw [List.take_length, ← hst]
    refine W.region hT hHD3 rfl (by (repeat' (first | assumption | exact rfl | exact trivial | omega | (dsimp only; omega) | refine ⟨?_, ?_⟩ | intro _ | (simp_all; done) | fail))) ?_
    refine ⟨⟨k + 1, by omega⟩, [(0, some 0), (1, some 1), (2, some 2), (3, some 3)], ?_, ?_⟩
    · dsimp only
      refine ⟨by rw [hF]; rfl, ?_, ?_, rfl, rfl, rfl⟩ <;> (repeat' (first | exact rfl | exact trivial | exact cellM.refl _ | exact fun _ _ _ _ => cellM.refl _ | exact fun _ => ⟨rfl, fun _ _ _ _ => cellM.refl _⟩ | refine ⟨?_, ?_⟩ | fail))
      exact wk
    · dsimp only
      omega
  have h3 : i < R.length := by have h3 : (i : Int) < (R.length : Int) := of_decide_eq_true h3; omega
  have hst2 := fold_step (bhD m p.1 p.2 h L) s0 h3
  have hinv2 : BhOK L ((R.take i).foldl (bhD m p.1 p.2 h L) s0) := fold_inv (BhOK L) (fun _ _ _ hs => bhOK_D hs) hinv
  generalize (R.take i).foldl (bhD m p.1 p.2 h L) s0 = s1 at hst2 hinv2 ⊢
  rw [← rtAt_mem h3] at hst2
  have wi' : Value.int .i64 (IntKind.i64.wrap ((i : Int) + 1)) = Value.int .i64 ((i + 1 : Nat) : Int) := by
    rw [wi (by omega)]
    rfl
  clear hst hinv
  refine W.seq (W.block ?_)
  refine W.seqR hT hHD3 rfl (by (repeat' (first | assumption | exact rfl | exact trivial | omega | (dsimp only; omega) | refine ⟨?_, ?_⟩ | intro _ | (simp_all; done) | fail))) ?_
  refine W.seqR hT hHD3 rfl (by (repeat' (first | assumption | exact rfl | exact trivial | omega | (dsimp only; omega) | refine ⟨?_, ?_⟩ | intro _ | (simp_all; done) | fail))) ?_
  refine W.block (W.loop (γ := { j : Nat // j ≤ L.length }) (fun j => bD R L m H ((L.take j.1).foldl (bhL m p.1 p.2 h (rtAt R i).1) s1) k p h i (rtAt R i) j.1) 6 (fun j => L.length - j.1) ⟨0, Nat.zero_le _⟩ [(0, some 0), (1, some 1), (2, some 2), (3, some 3), (4, some 4), (5, some 53)] ?_ ?_)
  · refine ⟨by rw [hF]; rfl, ?_, ?_, rfl, rfl, rfl⟩ <;> (repeat' (first | exact rfl | exact trivial | exact cellM.refl _ | exact fun _ _ _ _ => cellM.refl _ | exact fun _ => ⟨rfl, fun _ _ _ _ => cellM.refl _⟩ | refine ⟨?_, ?_⟩ | fail))
  generalize rtAt R i = r at hst2 ⊢
  rintro ⟨j, hj⟩
  dsimp only at hj ⊢
  refine W.seqR hT hHD3 rfl (by (repeat' (first | assumption | exact rfl | exact trivial | omega | (dsimp only; omega) | refine ⟨?_, ?_⟩ | intro _ | (simp_all; done) | fail))) (W.seq (W.cond rfl (fun h4 => W.skip ?_) (fun h4 => W.exit ?_)))
  rotate_left
  · have h4 : j = L.length := by have h4 : ¬ (j : Int) < (L.length : Int) := of_decide_eq_false h4; omega
    subst h4
    have hst2 : (R.take (i + 1)).foldl (bhD m p.1 p.2 h L) s0 = (L.take L.length).foldl (bhL m p.1 p.2 h r.1) s1 := by rw [List.take_length]; exact hst2
    rw [← hst2]
    refine W.region hT hHD3 rfl (by (repeat' (first | assumption | exact rfl | exact trivial | omega | (dsimp only; omega) | refine ⟨?_, ?_⟩ | intro _ | (simp_all; done) | fail))) ?_
    refine ⟨⟨i + 1, by omega⟩, [(0, some 0), (1, some 1), (2, some 2), (3, some 3), (4, some 4)], ?_, ?_⟩
    · dsimp only
      refine ⟨by rw [hF]; rfl, ?_, ?_, rfl, rfl, rfl⟩ <;> (repeat' (first | exact rfl | exact trivial | exact cellM.refl _ | exact fun _ _ _ _ => cellM.refl _ | exact fun _ => ⟨rfl, fun _ _ _ _ => cellM.refl _⟩ | refine ⟨?_, ?_⟩ | fail))
      exact wi'
    · dsimp only
      omega
  have h4 : j < L.length := by have h4 : (j : Int) < (L.length : Int) := of_decide_eq_true h4; omega
  have hst3 := fold_step (bhL m p.1 p.2 h r.1) s1 h4
  have hinv3 : BhOK L ((L.take j).foldl (bhL m p.1 p.2 h r.1) s1) := fold_inv (BhOK L) (fun _ _ hl hs => bhOK_L hs (List.mem_of_mem_take hl)) hinv2
  have hlm : lkAt L j ∈ L := by rw [lkAt_mem h4]; exact List.getElem_mem h4
  generalize (L.take j).foldl (bhL m p.1 p.2 h r.1) s1 = s2 at hst3 hinv3 ⊢
  rw [← lkAt_mem h4] at hst3
  have wj : Value.int .i64 (IntKind.i64.wrap ((j : Int) + 1)) = Value.int .i64 ((j + 1 : Nat) : Int) := by
    rw [wi (by omega)]
    rfl
  clear hst2 hinv2
  refine W.seq (W.block ?_)
  refine W.seqR hT hHD3 rfl (by (repeat' (first | assumption | exact rfl | exact trivial | omega | (dsimp only; omega) | refine ⟨?_, ?_⟩ | intro _ | (simp_all; done) | fail))) ?_
  refine W.seqR hT hHD3 rfl (by (repeat' (first | assumption | exact rfl | exact trivial | omega | (dsimp only; omega) | refine ⟨?_, ?_⟩ | intro _ | (simp_all; done) | fail))) ?_
  refine W.block (W.loop (γ := { q : Nat // q ≤ 2 }) (fun q => bE R L m H (((tris (lkAt L j)).take q.1).foldl (bhStep m p.1 p.2 h r.1) s2) k p h i r j (lkAt L j) q.1) 7 (fun q => 2 - q.1) ⟨0, Nat.zero_le _⟩ [(0, some 0), (1, some 1), (2, some 2), (3, some 3), (4, some 4), (5, some 5), (6, some 310)] ?_ ?_)
  · refine ⟨by rw [hF]; rfl, ?_, ?_, rfl, rfl, rfl⟩ <;> (repeat' (first | exact rfl | exact trivial | exact cellM.refl _ | exact fun _ _ _ _ => cellM.refl _ | exact fun _ => ⟨rfl, fun _ _ _ _ => cellM.refl _⟩ | refine ⟨?_, ?_⟩ | fail))
    intro i hi j hj
    match i, hi, j, hj with
    | 0, _, 0, _ => exact cellM.refl _
    | 0, _, 1, _ => exact cellM.refl _
    | 0, _, 2, _ => exact cellM.refl _
    | 1, _, 0, _ => exact cellM.refl _
    | 1, _, 1, _ => exact cellM.refl _
    | 1, _, 2, _ => exact cellM.refl _
  generalize lkAt L j = l at hst3 hlm ⊢
  have htl : (tris l).length = 2 := rfl
  rintro ⟨q, hq⟩
  dsimp only at hq ⊢
  refine W.seqR hT hHD3 rfl (by (repeat' (first | assumption | exact rfl | exact trivial | omega | (dsimp only; omega) | refine ⟨?_, ?_⟩ | intro _ | (simp_all; done) | fail))) (W.seq (W.cond rfl (fun h5 => W.skip ?_) (fun h5 => W.exit ?_)))
  rotate_left
  · have h5 : q = 2 := by have h5 : ¬ (q : Int) < 2 := of_decide_eq_false h5; omega
    subst h5
    have hst3 : (L.take (j + 1)).foldl (bhL m p.1 p.2 h r.1) s1 = ((tris l).take 2).foldl (bhStep m p.1 p.2 h r.1) s2 := hst3
    rw [← hst3]
    refine W.region hT hHD3 rfl (by (repeat' (first | assumption | exact rfl | exact trivial | omega | (dsimp only; omega) | refine ⟨?_, ?_⟩ | intro _ | (simp_all; done) | fail))) ?_
    refine ⟨⟨j + 1, by omega⟩, [(0, some 0), (1, some 1), (2, some 2), (3, some 3), (4, some 4), (5, some 5)], ?_, ?_⟩
    · dsimp only
      refine ⟨by rw [hF]; rfl, ?_, ?_, rfl, rfl, rfl⟩ <;> (repeat' (first | exact rfl | exact trivial | exact cellM.refl _ | exact fun _ _ _ _ => cellM.refl _ | exact fun _ => ⟨rfl, fun _ _ _ _ => cellM.refl _⟩ | refine ⟨?_, ?_⟩ | fail))
      exact wj
    · dsimp only
      omega
  have h5 : q < 2 := by have h5 : (q : Int) < 2 := of_decide_eq_true h5; omega
  have hst4 := fold_step (bhStep m p.1 p.2 h r.1) s2 (l := tris l) (k := q) (by omega)
  have hinv4 : BhOK L (((tris l).take q).foldl (bhStep m p.1 p.2 h r.1) s2) := fold_inv (BhOK L) (fun _ e he hs => bhOK_step hs (tris_ends hlm e (List.mem_of_mem_take he))) hinv3
  generalize ((tris l).take q).foldl (bhStep m p.1 p.2 h r.1) s2 = s3 at hst4 hinv4 ⊢
  have hst4 := hst4.trans (congrArg (bhStep m p.1 p.2 h r.1 s3) (show _ = triAt (tris l) q from by
    unfold triAt
    rw [List.getD_eq_getElem?_getD, List.getElem?_eq_getElem (by omega)]
    rfl))
  have wq : Value.int .i64 (IntKind.i64.wrap ((q : Int) + 1)) = Value.int .i64 ((q + 1 : Nat) : Int) := by
    rw [wi (by omega)]
    rfl
  clear hst3 hinv3
  refine W.seq (W.block ?_)
  refine W.seqR hT hHD3 rfl (by (repeat' (first | assumption | exact rfl | exact trivial | omega | (dsimp only; omega) | refine ⟨?_, ?_⟩ | intro _ | (simp_all; done) | fail))) ?_
  refine W.cut (ρ := [(0, some 0), (1, some 1), (2, some 2), (3, some 3), (4, some 4), (5, some 5), (6, some 6), (7, some 55)]) (nx' := 8) (t := bF R L m H s3 k p h i r j l q (triAt (tris l) q)) ?_ ?_
  · refine ⟨by rw [hF]; rfl, ?_, ?_, rfl, rfl, rfl⟩ <;> (repeat' (first | exact rfl | exact trivial | exact cellM.refl _ | exact fun _ _ _ _ => cellM.refl _ | exact fun _ => ⟨rfl, fun _ _ _ _ => cellM.refl _⟩ | refine ⟨?_, ?_⟩ | fail))
  generalize triAt (tris l) q = e at hst4 ⊢
  refine W.seqR hT hHD3 rfl (by exact ⟨rfl, fun _ => trivial, fun _ => trivial, fun h => ⟨h, trivial⟩, fun _ => trivial, fun h => ⟨h, trivial⟩, fun _ => trivial, fun h => ⟨h, trivial⟩, fun _ => trivial, fun h => ⟨h, trivial⟩, fun h => ⟨h, h, trivial⟩, fun _ => trivial, fun h => ⟨h, trivial⟩, fun h => ⟨h, h, h, h, h, trivial⟩, rfl, fun h => h, fun _ => rfl, trivial⟩) ?_
  have hlen := bhOK_len hinv4 [e.x]
  have hin : ints (s3.G [e.x]).length (inG (s3.G [e.x])) = s3.G [e.x] := ints_inG _
  have c1 : (s3.G [e.x]).length + 1 ≤ 9223372036854775807 := by omega
  have c2 : ((s3.G [e.x]).length + 1) * 8 ≤ 140737488355328 := by omega
  refine W.seqR hT hHD3 rfl ?_ (W.cond rfl (fun h6 => ?_) (fun h6 => W.skip ?_))
  · exact ⟨fun _ => trivial, fun _ => trivial, fun h => ⟨h, trivial⟩, fun _ => trivial, fun h => ⟨h, trivial⟩, fun _ => trivial, fun _ => trivial, fun h => ⟨h, h, h, h, h, trivial⟩, rfl, fun h => h, fun _ => rfl, fun _ => trivial, fun _ => trivial, fun h => ⟨h, trivial⟩, fun _ => trivial, fun h => ⟨h, trivial⟩, fun _ => trivial, fun _ => trivial, fun h => ⟨h, h, h, h, h, trivial⟩, rfl, fun h => h, fun _ => rfl, fun _ => trivial, fun _ => trivial, fun h => ⟨h, trivial⟩, fun h => ⟨h, h, trivial⟩, fun _ => trivial, fun h => ⟨h, trivial⟩, fun h => ⟨h, h, by show (s3.G [e.x]).length ≤ 9223372036854775806; omega, inG_ok _ _, trivial⟩, fun h => ⟨h, trivial⟩, fun h => h, fun _ => rfl, trivial⟩
  · have hst4 : ((tris l).take (q + 1)).foldl (bhStep m p.1 p.2 h r.1) s2 = bhPut s3 e.x e.y := by
      rw [hst4, bhStep]
      refine if_pos ?_
      rw [← h6]
      unfold bhT
      simp only [hin]
    refine W.regionDraw hT hHD3 (by repeat (first | exact runIt_nil | (apply runIt_cons; exact rfl))) (by kernel_rfl) hmix (by exact ⟨c1, c2, rfl, trivial⟩) ?_
    refine W.region hT hHD3 rfl (by (repeat' (first | assumption | exact rfl | exact trivial | omega | (dsimp only; omega) | refine ⟨?_, ?_⟩ | intro _ | (simp_all; done) | fail))) ?_
    refine ⟨⟨q + 1, by omega⟩, [(0, some 0), (1, some 1), (2, some 1016), (3, some 3), (4, some 4), (5, some 5), (6, some 6)], ?_, ?_⟩
    · dsimp only
      rw [hst4]
      refine ⟨by rw [hF]; rfl, ?_, ?_, rfl, rfl, rfl⟩ <;> (repeat' (first | exact rfl | exact trivial | exact cellM.refl _ | exact fun _ _ _ _ => cellM.refl _ | exact fun _ => ⟨rfl, fun _ _ _ _ => cellM.refl _⟩ | refine ⟨?_, ?_⟩ | fail))
      · exact wq
      · exact grpI_add (F := s3.G) (x := e.y) rfl
    · dsimp only
      omega
  · have hst4 : ((tris l).take (q + 1)).foldl (bhStep m p.1 p.2 h r.1) s2 = s3 := by
      rw [hst4, bhStep]
      refine if_neg ?_
      have h7 : bhT m p.1 p.2 h r.1 s3.G e = false := by
        rw [← h6]
        unfold bhT
        simp only [hin]
      rw [h7]
      exact Bool.false_ne_true
    refine W.region hT hHD3 rfl (by (repeat' (first | assumption | exact rfl | exact trivial | omega | (dsimp only; omega) | refine ⟨?_, ?_⟩ | intro _ | (simp_all; done) | fail))) ?_
    refine ⟨⟨q + 1, by omega⟩, [(0, some 0), (1, some 1), (2, some 2), (3, some 3), (4, some 4), (5, some 5), (6, some 6)], ?_, ?_⟩
    · dsimp only
      rw [hst4]
      refine ⟨by rw [hF]; rfl, ?_, ?_, rfl, rfl, rfl⟩ <;> (repeat' (first | exact rfl | exact trivial | exact cellM.refl _ | exact fun _ _ _ _ => cellM.refl _ | exact fun _ => ⟨rfl, fun _ _ _ _ => cellM.refl _⟩ | refine ⟨?_, ?_⟩ | fail))
      exact wq
    · dsimp only
      omega
end Go.Proofs.Ytahhejlpmacloaa

/- The walk of turned. -/
namespace Go.Proofs.Ytahhejlpmacloaa
open Go Go.Eng

def rowsI (f : List Int → Nat × Get) : RowsI := fun k => ints (f k).1 (f k).2
/-- The relation the other way round. -/
structure TurnOf (a : AM) (F : RowsI) (x : BhS) : Prop where
  mem : ∀ k z, z ∈ x.G k ↔ ∃ y, k = [y] ∧ hasK a [z] ∧ y ∈ F [z]
  len : ∀ k, (x.G k).length ≤ 100000000
def turnPut (z : Int) (s : BhS) (y : Int) : BhS := bhPut s y z
structure TInv (a : AM) (F : RowsI) (seen : List Nat) (x : BhS) : Prop where
  mem : ∀ k z, z ∈ x.G k ↔ ∃ y, k = [y] ∧ (∃ e ∈ a.es, e.b ∈ seen ∧ e.k = [z]) ∧ y ∈ F [z]
  len : ∀ k, (x.G k).length ≤ 10000 * seen.length
  cnt : seen.length + a.left seen ≤ a.es.length

theorem turn_fold (z : Int) (l : List Int) : ∀ s : BhS, (∀ k u, u ∈ (l.foldl (turnPut z) s).G k ↔ u ∈ s.G k ∨ (u = z ∧ ∃ y ∈ l, k = [y])) ∧ ∀ k, ((l.foldl (turnPut z) s).G k).length ≤ (s.G k).length + l.length := by
  induction l with
  | nil => exact fun s => ⟨fun k u => by simp, fun k => by simp⟩
  | cons y l ih =>
    intro s
    obtain ⟨h1, h2⟩ := ih (turnPut z s y)
    rw [List.foldl_cons]
    have e : ∀ k, (turnPut z s y).G k = if k = [y] then s.G [y] ++ [z] else s.G k := fun k => rfl
    refine ⟨fun k u => ?_, fun k => ?_⟩
    · rw [h1, e]
      by_cases hk : k = [y]
      · subst hk
        simp
        exact fun h _ => .inr h
      · simp [hk]
    · have := h2 k
      rw [e] at this
      split at this
      · rename_i hk
        subst hk
        simp at this ⊢
        omega
      · simp at this ⊢
        omega

def tMem (a : AM) (F : RowsI) (x : BhS) : List (Nat × Res) := [(0, .mapR 1 1 none a), (1, .grp 3 1 (fun k => ((F k).length, inG (F k)))), (2, .mapR 1 3 none x.a), (3, .grp 3 1 (fun k => ((x.G k).length, inG (x.G k))))]
def tuA (a : AM) (F : RowsI) (x : BhS) (seen : List Nat) : St := ⟨[(3, .one (.map 2)), (10, .one (.it 4))], tMem a F x ++ [(4, .iter 0 a.c seen a.c)]⟩
def tuB (a : AM) (F : RowsI) (x : BhS) (seen : List Nat) (z : Int) (k : Nat) : St :=
  ⟨[(3, .one (.map 2)), (10, .one (.it 4)), (4, iv z), (16, .one (.mel 0 1 [z])), (17, iv (F [z]).length), (18, iv k)], tMem a F x ++ [(4, .iter 0 a.c seen a.c)]⟩

def spTurned (x : BhS) : FSpec
  | [.one (.map 0)], [.mapR 1 1 none a, .grp 3 1 f] =>
    some ⟨[a.es.length ≤ 10000, ∀ k, (f k).1 ≤ 10000 ∧ intsOK (f k).1 (f k).2], .one (.map 2), [(0, .mapR 1 1 none a), (1, .grp 3 1 f), (2, .mapR 1 3 none x.a), (3, .grp 3 1 (fun k => ((x.G k).length, inG (x.G k))))]⟩
  | _, _ => none
def turnedR (x : BhS) : List AV → List Res → Prop
  | [.one (.map 0)], [.mapR 1 1 none a, .grp 3 1 f] => TurnOf a (rowsI f) x
  | _, _ => False

set_option maxRecDepth 100000 in
set_option maxHeartbeats 4000000 in
theorem turned_holds : HoldsX Try.prog 20 spTurned turnedR := by
  refine HoldsX.of hT Try.func20 rfl 32 rfl fun args bs out h hc => ?_
  have h0 := h bh0
  unfold spTurned at h0
  split at h0
  rotate_left
  · cases h0
  rename_i a f
  obtain rfl : _ = out := funext fun x => Option.some.inj (h x)
  clear h h0
  have hc := hc bh0
  obtain ⟨ha, hf, _⟩ := hc
  refine ⟨by simp, by simp [Res.live], fun F hF => ?_⟩
  show W Try.prog F 32 _ _ _ (fun e nx s => ∃ x, TurnOf a (rowsI f) x ∧ _)
  have hrest : ∀ k, (f k).1 = (rowsI f k).length := fun k => (ints_length _ _).symm
  have hback : ∀ (k : List Int), (rowsI f k).length = (f k).1 ∧ ∀ i, i < (f k).1 → ∀ j, j < 1 → cellM (inG (rowsI f k) i j) ((f k).2 i j) := by
    intro k
    refine ⟨(hrest k).symm, fun i hi j hj => ?_⟩
    obtain rfl : j = 0 := by omega
    have e : inG (rowsI f k) i 0 = (f k).2 i 0 := by
      have := (hf k).2 i hi
      rw [this]
      simp only [inG, rowsI]
      rw [ints_at hi]
    rw [e]
    exact cellM.refl _
  have hFl : ∀ k, (rowsI f k).length ≤ 10000 := fun k => by rw [← hrest]; exact (hf k).1
  refine W.cut (ρ := [(0, some 0), (1, some 1)]) (nx' := 2) (t := ⟨[(0, .one (.map 0))], [(0, .mapR 1 1 none a), (1, .grp 3 1 (fun k => ((rowsI f k).length, inG (rowsI f k))))]⟩) ?_ ?_
  · refine ⟨by rw [hF]; rfl, ?_, ?_, rfl, rfl, rfl⟩ <;> (repeat' (first | exact rfl | exact trivial | exact cellM.refl _ | exact fun _ _ _ _ => cellM.refl _ | exact fun _ => ⟨rfl, fun _ _ _ _ => cellM.refl _⟩ | refine ⟨?_, ?_⟩ | fail))
    intro k
    refine ⟨hrest k, fun i hi j hj => ints_cell (hf k).2 i (by rw [hrest]; exact hi) j hj⟩
  generalize rowsI f = Fw at hback hFl ⊢
  refine W.seqR hT hG0 rfl (by (repeat' (first | assumption | exact rfl | exact trivial | omega | (dsimp only; omega) | refine ⟨?_, ?_⟩ | intro _ | (simp_all; done) | fail))) ?_
  refine W.seqR hT hG0 rfl (by (repeat' (first | assumption | exact rfl | exact trivial | omega | (dsimp only; omega) | refine ⟨?_, ?_⟩ | intro _ | (simp_all; done) | fail))) ?_
  refine W.seq (W.seqR hT hG0 rfl (by (repeat' (first | assumption | exact rfl | exact trivial | omega | (dsimp only; omega) | refine ⟨?_, ?_⟩ | intro _ | (simp_all; done) | fail))) ?_)
  refine W.block (W.loop (γ := { p : List Nat × BhS // TInv a Fw p.1 p.2 }) (fun p => tuA a Fw p.1.2 p.1.1) 5 (fun p => a.left p.1.1) ⟨([], bh0), ?_⟩ [(0, some 0), (1, some 1), (2, some 18), (3, some 19), (4, some 66)] ?_ ?_)
  · refine ⟨fun k z => ⟨fun h => (by cases h), ?_⟩, fun k => Nat.zero_le _, ?_⟩
    · rintro ⟨y, _, ⟨e, _, h, _⟩, _⟩
      cases h
    · unfold AM.left
      have := List.length_filter_le (fun e : MEnt => !([] : List Nat).contains e.b) a.es
      simpa using this
  · refine ⟨by rw [hF]; rfl, ?_, ?_, rfl, rfl, rfl⟩ <;> (repeat' (first | exact rfl | exact trivial | exact cellM.refl _ | exact fun _ _ _ _ => cellM.refl _ | exact fun _ => ⟨rfl, fun _ _ _ _ => cellM.refl _⟩ | refine ⟨?_, ?_⟩ | fail))
    exact fun k => ⟨rfl, fun i hi => absurd hi (Nat.not_lt_zero i)⟩
  rintro ⟨⟨seen, x⟩, hx⟩
  dsimp only at hx ⊢
  refine W.seqO (WO.any rfl rfl rfl (next_any (t := 10) (m := 4) (m' := 0) (seen := seen) (r := .mapR 1 1 none a) (a := a) rfl rfl rfl rfl rfl (fun n g h => by cases h; exact ⟨_, _, _, rfl⟩) _) ?_)
  rintro E ⟨hwf, ⟨rfl, hall⟩ | ⟨e, he, hkl, hne, rfl⟩⟩
  · refine WO.run 1 hT hG0 rfl rfl trivial (WO.done (Nat.le_refl _) ?_)
    refine W.seq (W.cond rfl (fun h => by cases h) (fun _ => W.exit ?_))
    have hR : TurnOf a Fw x := by
      refine ⟨fun k z => ?_, fun k => ?_⟩
      · rw [hx.mem]
        constructor
        · rintro ⟨y, hk, ⟨e, he, _, hek⟩, hy⟩
          exact ⟨y, hk, ⟨e, he, hek⟩, hy⟩
        · rintro ⟨y, hk, ⟨e, he, hek⟩, hy⟩
          exact ⟨y, hk, ⟨e, he, hall e he, hek⟩, hy⟩
      · have h1 := hx.len k
        have h2 := hx.cnt
        omega
    refine W.seqR hT hG0 rfl (by (repeat' (first | assumption | exact rfl | exact trivial | omega | (dsimp only; omega) | refine ⟨?_, ?_⟩ | intro _ | (simp_all; done) | fail))) ?_
    refine W.ret ⟨x, hR, _, [(0, some 0), (1, some 1), (2, some 2), (3, some 3)], rfl, rfl, ?_, ?_, rfl, rfl, rfl⟩ <;> (repeat' (first | exact rfl | exact trivial | exact cellM.refl _ | exact fun _ _ _ _ => cellM.refl _ | exact fun _ => ⟨rfl, fun _ _ _ _ => cellM.refl _⟩ | refine ⟨?_, ?_⟩ | fail))
    exact hback
  obtain ⟨k, v, bb⟩ := e
  obtain ⟨z, rfl⟩ := List.length_eq_one_iff.1 hkl
  refine WO.run 1 hT hG0 rfl rfl trivial (WO.done (Nat.le_refl _) ?_)
  refine W.seq (W.cond rfl (fun _ => W.skip ?_) (fun h => by cases h))
  refine W.block (W.seqO (WO.any rfl rfl rfl (entry_any (t := 10) (m := 4) (m' := 0) (seen := seen) (r := .mapR 1 1 none a) (a := a) (e := ⟨[z], v, bb⟩) rfl rfl rfl rfl rfl (fun n g h => by cases h; exact ⟨_, _, _, rfl⟩) he _) ?_))
  rintro E rfl
  refine WO.run 4 hT hG0 rfl rfl trivial (WO.done (Nat.le_refl _) ?_)
  refine W.seqR hT hG0 rfl (by (repeat' (first | assumption | exact rfl | exact trivial | omega | (dsimp only; omega) | refine ⟨?_, ?_⟩ | intro _ | (simp_all; done) | fail))) ?_
  have hx1 := hx.len
  have hx2 := hx.cnt
  have hx3 : seen.length ≤ 10000 := by omega
  refine W.block (W.loop (γ := { k : Nat // k ≤ (Fw [z]).length }) (fun k => tuB a Fw (((Fw [z]).take k.1).foldl (turnPut z) x) (seen ++ [bb]) z k.1) 5 (fun k => (Fw [z]).length - k.1) ⟨0, Nat.zero_le _⟩ [(0, some 0), (1, some 1), (2, some 2), (3, some 3), (4, some 4)] ?_ ?_)
  · refine ⟨by rw [hF]; rfl, ?_, ?_, rfl, rfl, rfl⟩ <;> (repeat' (first | exact rfl | exact trivial | exact cellM.refl _ | exact fun _ _ _ _ => cellM.refl _ | exact fun _ => ⟨rfl, fun _ _ _ _ => cellM.refl _⟩ | refine ⟨?_, ?_⟩ | fail))
  rintro ⟨k, hk⟩
  dsimp only at hk ⊢
  have hzl := hFl [z]
  refine W.seqR hT hG0 rfl (by (repeat' (first | assumption | exact rfl | exact trivial | omega | (dsimp only; omega) | refine ⟨?_, ?_⟩ | intro _ | (simp_all; done) | fail))) (W.seq (W.cond rfl (fun h2 => W.skip ?_) (fun h2 => W.exit ?_)))
  rotate_left
  · have h2 : k = (Fw [z]).length := by have h2 : ¬ (k : Int) < ((Fw [z]).length : Int) := of_decide_eq_false h2; omega
    subst h2
    rw [List.take_length]
    obtain ⟨t1, t2⟩ := turn_fold z (Fw [z]) x
    refine ⟨⟨(seen ++ [bb], (Fw [z]).foldl (turnPut z) x), ?_⟩, [(0, some 0), (1, some 1), (2, some 2), (3, some 3), (4, some 4)], ?_, AM.left_lt he hne⟩
    · refine ⟨fun k u => ?_, fun k => ?_, ?_⟩
      · rw [t1, hx.mem]
        constructor
        · rintro (⟨y, hk, ⟨e, he', hs, hek⟩, hy⟩ | ⟨rfl, y, hy, hk⟩)
          · exact ⟨y, hk, ⟨e, he', List.mem_append_left _ hs, hek⟩, hy⟩
          · exact ⟨y, hk, ⟨_, he, by simp, rfl⟩, hy⟩
        · rintro ⟨y, hk, ⟨e, he', hs, hek⟩, hy⟩
          rcases List.mem_append.1 hs with hs | hs
          · exact .inl ⟨y, hk, ⟨e, he', hs, hek⟩, hy⟩
          · obtain rfl := nodup_birth hwf.births he' he (by simpa using hs)
            injection hek with hek
            subst hek
            exact .inr ⟨rfl, y, hy, hk⟩
      · have := t2 k
        have := hx1 k
        simp only [List.length_append, List.length_singleton]
        omega
      · have := AM.left_lt he hne
        dsimp only at this
        simp only [List.length_append, List.length_singleton]
        omega
    · refine ⟨by rw [hF]; rfl, ?_, ?_, rfl, rfl, rfl⟩ <;> (repeat' (first | exact rfl | exact trivial | exact cellM.refl _ | exact fun _ _ _ _ => cellM.refl _ | exact fun _ => ⟨rfl, fun _ _ _ _ => cellM.refl _⟩ | refine ⟨?_, ?_⟩ | fail))
  have h2 : k < (Fw [z]).length := by have h2 : (k : Int) < ((Fw [z]).length : Int) := of_decide_eq_true h2; omega
  have hst := fold_step (turnPut z) x h2
  have hgl : ∀ k', ((((Fw [z]).take k).foldl (turnPut z) x).G k').length ≤ 100010000 := by
    intro k'
    have h1 := (turn_fold z ((Fw [z]).take k) x).2 k'
    have h2 := hx1 k'
    rw [List.length_take] at h1
    omega
  generalize ((Fw [z]).take k).foldl (turnPut z) x = x1 at hst hgl ⊢
  have hy : (Fw [z])[k] = (Fw [z]).getD k 0 := by simp [h2]
  rw [hy] at hst
  refine W.seq (W.block ?_)
  refine W.seqR hT hG0 rfl (by (repeat' (first | assumption | exact rfl | exact trivial | omega | (dsimp only; omega) | refine ⟨?_, ?_⟩ | intro _ | (simp_all; done) | fail))) ?_
  have c1 : (x1.G [(Fw [z]).getD k 0]).length + 1 ≤ 9223372036854775807 := by have := hgl [(Fw [z]).getD k 0]; omega
  have c2 : ((x1.G [(Fw [z]).getD k 0]).length + 1) * 8 ≤ 140737488355328 := by have := hgl [(Fw [z]).getD k 0]; omega
  refine W.region hT hG0 rfl (by exact ⟨c1, c2, rfl, trivial⟩) ?_
  refine W.region hT hG0 rfl (by (repeat' (first | assumption | exact rfl | exact trivial | omega | (dsimp only; omega) | refine ⟨?_, ?_⟩ | intro _ | (simp_all; done) | fail))) ?_
  refine ⟨⟨k + 1, by omega⟩, [(0, some 0), (1, some 1), (2, some 2), (3, some 197), (4, some 4)], ?_, ?_⟩
  · dsimp only
    rw [hst]
    refine ⟨by rw [hF]; rfl, ?_, ?_, rfl, rfl, rfl⟩ <;> (repeat' (first | exact rfl | exact trivial | exact cellM.refl _ | exact fun _ _ _ _ => cellM.refl _ | exact fun _ => ⟨rfl, fun _ _ _ _ => cellM.refl _⟩ | refine ⟨?_, ?_⟩ | fail))
    · show Value.int .i64 (IntKind.i64.wrap ((k : Int) + 1)) = Value.int .i64 ((k + 1 : Nat) : Int)
      rw [wi (by omega)]
      rfl
    · exact grpI_add (F := x1.G) (x := z) rfl
  · dsimp only
    omega
end Go.Proofs.Ytahhejlpmacloaa

/- The walk of the closure that ranks a router. -/
namespace Go.Proofs.Ytahhejlpmacloaa
open Go Go.Eng

def rkL (f : AM → Int → Option (Int × AM)) : AM → List Int → Int → Option (Int × AM)
  | kn, [], m => some (m, kn)
  | kn, x :: l, m => match f kn x with
    | some (v, kn') => rkL f kn' l (max m (IntKind.i64.wrap (1 + v)))
    | none => none
/-- The rank of a router; what is known by then. -/
def rkN (G : RowsI) : Nat → AM → Int → Option (Int × AM)
  | 0, _, _ => none
  | n + 1, kn, r => if kn.has [r] = true then some (kn.get [r], kn) else
    match rkL (rkN G n) kn (G [r]) 0 with
    | some (m, kn') => some (m, kn'.set [r] m)
    | none => none
def rkV (G : RowsI) (n : Nat) (kn : AM) (r : Int) : Int × AM := (rkN G n kn r).getD (0, kn)

theorem rkL_app (f : AM → Int → Option (Int × AM)) (x : Int) : ∀ (l : List Int) (kn : AM) (m : Int), rkL f kn (l ++ [x]) m = match rkL f kn l m with
    | some (m', kn') => match f kn' x with
      | some (v, kn'') => some (max m' (IntKind.i64.wrap (1 + v)), kn'')
      | none => none
    | none => none
  | [], kn, m => by
    simp only [List.nil_append, rkL]
  | y :: l, kn, m => by
    simp only [List.cons_append, rkL]
    split
    · exact rkL_app f x l _ _
    · rfl
theorem rkL_some {f : AM → Int → Option (Int × AM)} : ∀ {l l' : List Int} {kn : AM} {m : Int}, (rkL f kn (l ++ l') m).isSome = true → (rkL f kn l m).isSome = true
  | [], _, _, _, _ => rfl
  | y :: l, l', kn, m, h => by
    simp only [List.cons_append, rkL] at h ⊢
    split at h
    · exact rkL_some h
    · cases h

def kMem (kn a : AM) (F : RowsI) : List (Nat × Res) :=
  [(0, .box 61 [.map 3]), (1, .box 58 [.map 4]), (2, .box 50 [.clo 21 [(0, 0), (1, 0), (2, 0)]]), (3, .mapI 1 0 kn), (4, .mapR 1 5 none a), (5, .grp 3 1 (fun k => ((F k).length, inG (F k))))]
def kEnv (r : Int) : List (Nat × AV) := [(0, iv r), (1, .one (.ptr 0 0)), (2, .one (.ptr 1 0)), (3, .one (.ptr 2 0))]
def kA' (kn a : AM) (F : RowsI) (r : Int) : St := ⟨kEnv r, kMem kn a F⟩
def kB' (kn a : AM) (F : RowsI) (r m : Int) (k : Nat) : St := ⟨kEnv r ++ [(8, iv m), (21, .one (.mel 4 5 [r])), (22, iv (F [r]).length), (23, iv k)], kMem kn a F⟩

def spRank (n : Nat) : FSpec
  | [.one (.c (.val (.int .i64 r))), .one (.ptr 0 0), .one (.ptr 1 0), .one (.ptr 2 0)], [.box 61 [.map 3], .box 58 [.map 4], .box 50 [.clo 21 [(0, 0), (1, 0), (2, 0)]], .mapI 1 0 kn, .mapR 1 5 none a, .grp 3 1 f] =>
    some ⟨[(rkN (rowsI f) n kn r).isSome = true, ∀ k, (f k).1 ≤ 1000000000 ∧ intsOK (f k).1 (f k).2], iv (rkV (rowsI f) n kn r).1,
      [(0, .box 61 [.map 3]), (1, .box 58 [.map 4]), (2, .box 50 [.clo 21 [(0, 0), (1, 0), (2, 0)]]), (3, .mapI 1 0 (rkV (rowsI f) n kn r).2), (4, .mapR 1 5 none a), (5, .grp 3 1 f)]⟩
  | _, _ => none

theorem rowsI_inG (F : RowsI) : rowsI (fun k => ((F k).length, inG (F k))) = F := by
  funext k
  exact ints_inG _

set_option maxRecDepth 100000 in
set_option maxHeartbeats 4000000 in
theorem rank_holds : ∀ n, Holds Try.prog 21 (spRank n) := by
  intro n
  induction n with
  | zero =>
    refine Holds.of hT Try.func21 rfl 38 rfl fun args bs out h hc => ?_
    unfold spRank at h
    split at h
    rotate_left
    · cases h
    rename_i r kn a f
    simp only [Option.some.injEq] at h
    subst h
    obtain ⟨h, _⟩ := hc
    cases h
  | succ n ih =>
    have hG : GOK Try.prog [(21, spRank n)] := GOK.cons (enters Try.func21 rfl (by kernel_rfl)) ih hG0
    refine Holds.of hT Try.func21 rfl 38 rfl fun args bs out h hc => ?_
    unfold spRank at h
    split at h
    rotate_left
    · cases h
    rename_i r kn a f
    simp only [Option.some.injEq] at h
    subst h
    obtain ⟨hs, hf, _⟩ := hc
    refine ⟨by simp, by simp [Res.live], fun F hF => ?_⟩
    have hrest : ∀ k, (f k).1 = (rowsI f k).length := fun k => (ints_length _ _).symm
    have hback : ∀ (k : List Int), (rowsI f k).length = (f k).1 ∧ ∀ i, i < (f k).1 → ∀ j, j < 1 → cellM (inG (rowsI f k) i j) ((f k).2 i j) := by
      intro k
      refine ⟨(hrest k).symm, fun i hi j hj => ?_⟩
      obtain rfl : j = 0 := by omega
      have e : inG (rowsI f k) i 0 = (f k).2 i 0 := by
        have := (hf k).2 i hi
        rw [this]
        simp only [inG, rowsI]
        rw [ints_at hi]
      rw [e]
      exact cellM.refl _
    have hFl : ∀ k, (rowsI f k).length ≤ 1000000000 := fun k => by rw [← hrest]; exact (hf k).1
    refine W.cut (ρ := [(0, some 0), (1, some 1), (2, some 2), (3, some 3), (4, some 4), (5, some 5)]) (nx' := 6) (t := kA' kn a (rowsI f) r) ?_ ?_
    · refine ⟨by rw [hF]; rfl, ?_, ?_, rfl, rfl, rfl⟩ <;> (repeat' (first | exact rfl | exact trivial | exact cellM.refl _ | exact fun _ _ _ _ => cellM.refl _ | exact fun _ => ⟨rfl, fun _ _ _ _ => cellM.refl _⟩ | refine ⟨?_, ?_⟩ | fail))
      intro k
      refine ⟨hrest k, fun i hi j hj => ints_cell (hf k).2 i (by rw [hrest]; exact hi) j hj⟩
    generalize rowsI f = Fw at hs hback hFl ⊢
    have hv : rkN Fw (n + 1) kn r = some (rkV Fw (n + 1) kn r) := by
      unfold rkV
      cases h : rkN Fw (n + 1) kn r with
      | none => rw [h] at hs; cases hs
      | some p => rfl
    generalize rkV Fw (n + 1) kn r = out at hv ⊢
    obtain ⟨o1, o2⟩ := out
    dsimp only
    rw [rkN] at hv
    clear hs
    refine W.seqR hT hG rfl (by (repeat' (first | assumption | exact rfl | exact trivial | omega | (dsimp only; omega) | refine ⟨?_, ?_⟩ | intro _ | (simp_all; done) | fail))) ?_
    refine W.seq ?_
    refine W.seqR hT hG rfl (by (repeat' (first | assumption | exact rfl | exact trivial | omega | (dsimp only; omega) | refine ⟨?_, ?_⟩ | intro _ | (simp_all; done) | fail))) ?_
    refine W.seqR hT hG rfl (by (repeat' (first | assumption | exact rfl | exact trivial | omega | (dsimp only; omega) | refine ⟨?_, ?_⟩ | intro _ | (simp_all; done) | fail))) (W.cond rfl (fun h1 => ?_) (fun h1 => W.skip ?_))
    · rw [if_pos h1] at hv
      simp only [Option.some.injEq, Prod.mk.injEq] at hv
      obtain ⟨rfl, rfl⟩ := hv
      refine W.seqR hT hG rfl (by (repeat' (first | assumption | exact rfl | exact trivial | omega | (dsimp only; omega) | refine ⟨?_, ?_⟩ | intro _ | (simp_all; done) | fail))) ?_
      refine W.ret ⟨_, [(0, some 0), (1, some 1), (2, some 2), (3, some 3), (4, some 4), (5, some 5)], rfl, rfl, ?_, ?_, rfl, rfl, rfl⟩ <;> (repeat' (first | exact rfl | exact trivial | exact cellM.refl _ | exact fun _ _ _ _ => cellM.refl _ | exact fun _ => ⟨rfl, fun _ _ _ _ => cellM.refl _⟩ | refine ⟨?_, ?_⟩ | fail))
      exact hback
    rw [if_neg (by rw [show kn.has [r] = false from h1]; exact Bool.false_ne_true)] at hv
    obtain ⟨⟨m, kn'⟩, hl⟩ : ∃ p, rkL (rkN Fw n) kn (Fw [r]) 0 = some p := by
      cases h : rkL (rkN Fw n) kn (Fw [r]) 0 with
      | none => rw [h] at hv; cases hv
      | some p => exact ⟨p, rfl⟩
    rw [hl] at hv
    simp only [Option.some.injEq, Prod.mk.injEq] at hv
    obtain ⟨rfl, rfl⟩ := hv
    refine W.seqR hT hG rfl (by (repeat' (first | assumption | exact rfl | exact trivial | omega | (dsimp only; omega) | refine ⟨?_, ?_⟩ | intro _ | (simp_all; done) | fail))) ?_
    refine W.seq (W.seqR hT hG rfl (by (repeat' (first | assumption | exact rfl | exact trivial | omega | (dsimp only; omega) | refine ⟨?_, ?_⟩ | intro _ | (simp_all; done) | fail))) ?_)
    refine W.block (W.loop (γ := { p : Nat × Int × AM // p.1 ≤ (Fw [r]).length ∧ rkL (rkN Fw n) kn ((Fw [r]).take p.1) 0 = some (p.2.1, p.2.2) }) (fun p => kB' p.1.2.2 a Fw r p.1.2.1 p.1.1) 6 (fun p => (Fw [r]).length - p.1.1) ⟨(0, 0, kn), Nat.zero_le _, rfl⟩ [(0, some 0), (1, some 1), (2, some 2), (3, some 3), (4, some 4), (5, some 5)] ?_ ?_)
    · refine ⟨by rw [hF]; rfl, ?_, ?_, rfl, rfl, rfl⟩ <;> (repeat' (first | exact rfl | exact trivial | exact cellM.refl _ | exact fun _ _ _ _ => cellM.refl _ | exact fun _ => ⟨rfl, fun _ _ _ _ => cellM.refl _⟩ | refine ⟨?_, ?_⟩ | fail))
    rintro ⟨⟨k, m1, kn1⟩, hk, hp⟩
    dsimp only at hk hp ⊢
    have hrl := hFl [r]
    refine W.seqR hT hG rfl (by (repeat' (first | assumption | exact rfl | exact trivial | omega | (dsimp only; omega) | refine ⟨?_, ?_⟩ | intro _ | (simp_all; done) | fail))) (W.seq (W.cond rfl (fun h2 => W.skip ?_) (fun h2 => W.exit ?_)))
    rotate_left
    · have h2 : k = (Fw [r]).length := by have h2 : ¬ (k : Int) < ((Fw [r]).length : Int) := of_decide_eq_false h2; omega
      subst h2
      rw [List.take_length, hl] at hp
      simp only [Option.some.injEq, Prod.mk.injEq] at hp
      obtain ⟨rfl, rfl⟩ := hp
      refine W.seqR hT hG rfl (by (repeat' (first | assumption | exact rfl | exact trivial | omega | (dsimp only; omega) | refine ⟨?_, ?_⟩ | intro _ | (simp_all; done) | fail))) ?_
      refine W.seqR hT hG rfl (by (repeat' (first | assumption | exact rfl | exact trivial | omega | (dsimp only; omega) | refine ⟨?_, ?_⟩ | intro _ | (simp_all; done) | fail))) ?_
      refine W.ret ⟨_, [(0, some 0), (1, some 1), (2, some 2), (3, some 3), (4, some 4), (5, some 5)], rfl, rfl, ?_, ?_, rfl, rfl, rfl⟩ <;> (repeat' (first | exact rfl | exact trivial | exact cellM.refl _ | exact fun _ _ _ _ => cellM.refl _ | exact fun _ => ⟨rfl, fun _ _ _ _ => cellM.refl _⟩ | refine ⟨?_, ?_⟩ | fail))
      exact hback
    have h2 : k < (Fw [r]).length := by have h2 : (k : Int) < ((Fw [r]).length : Int) := of_decide_eq_true h2; omega
    have hy : (Fw [r])[k] = (Fw [r]).getD k 0 := by simp [h2]
    have hst : rkL (rkN Fw n) kn ((Fw [r]).take (k + 1)) 0 = match rkN Fw n kn1 ((Fw [r]).getD k 0) with
        | some (v, kn'') => some (max m1 (IntKind.i64.wrap (1 + v)), kn'')
        | none => none := by
      rw [List.take_succ_eq_append_getElem h2, rkL_app, hp, hy]
    have hsm : (rkL (rkN Fw n) kn ((Fw [r]).take (k + 1)) 0).isSome = true := by
      refine rkL_some (l' := (Fw [r]).drop (k + 1)) ?_
      rw [List.take_append_drop, hl]
      rfl
    rw [hst] at hsm
    obtain ⟨⟨v, kn2⟩, hr2⟩ : ∃ p, rkN Fw n kn1 ((Fw [r]).getD k 0) = some p := by
      cases h : rkN Fw n kn1 ((Fw [r]).getD k 0) with
      | none => rw [h] at hsm; cases hsm
      | some p => exact ⟨p, rfl⟩
    rw [hr2] at hst
    dsimp only at hst
    have hvv : rkV Fw n kn1 ((Fw [r]).getD k 0) = (v, kn2) := by rw [rkV, hr2]; rfl
    refine W.seq (W.block ?_)
    refine W.seqR hT hG rfl (by (repeat' (first | assumption | exact rfl | exact trivial | omega | (dsimp only; omega) | refine ⟨?_, ?_⟩ | intro _ | (simp_all; done) | fail))) ?_
    have hcv : rkV (rowsI fun k => ((Fw k).length, inG (Fw k))) n kn1 ((Fw [r]).getD (k : Int).toNat 0) = (v, kn2) := by
      rw [rowsI_inG]
      exact hvv
    refine W.region hT hG rfl ⟨?_, fun k => ⟨hFl k, inG_ok _ _⟩, rfl, trivial⟩ ?_
    · rw [rowsI_inG]
      show (rkN Fw n kn1 ((Fw [r]).getD k 0)).isSome = true
      rw [hr2]
      rfl
    refine W.region hT hG rfl (by (repeat' (first | assumption | exact rfl | exact trivial | omega | (dsimp only; omega) | refine ⟨?_, ?_⟩ | intro _ | (simp_all; done) | fail))) ?_
    refine ⟨⟨(k + 1, max m1 (IntKind.i64.wrap (1 + v)), kn2), by omega, hst⟩, [(0, some 0), (1, some 1), (2, some 2), (3, some 3), (4, some 4), (5, some 5)], ?_, ?_⟩
    · dsimp only
      refine ⟨by rw [hF]; rfl, ?_, ?_, rfl, rfl, rfl⟩ <;> (repeat' (first | exact rfl | exact trivial | exact cellM.refl _ | exact fun _ _ _ _ => cellM.refl _ | exact fun _ => ⟨rfl, fun _ _ _ _ => cellM.refl _⟩ | refine ⟨?_, ?_⟩ | fail))
      · show Value.int .i64 (max m1 (IntKind.i64.wrap (1 + (rkV (rowsI fun k => ((Fw k).length, inG (Fw k))) n kn1 ((Fw [r]).getD (k : Int).toNat 0)).1))) = Value.int .i64 (max m1 (IntKind.i64.wrap (1 + v)))
        rw [hcv]
      · show Value.int .i64 (IntKind.i64.wrap ((k : Int) + 1)) = Value.int .i64 ((k + 1 : Nat) : Int)
        rw [wi (by omega)]
        rfl
      · show (rkV (rowsI fun k => ((Fw k).length, inG (Fw k))) n kn1 ((Fw [r]).getD (k : Int).toNat 0)).2 = kn2
        rw [hcv]
    · dsimp only
      omega
end Go.Proofs.Ytahhejlpmacloaa
