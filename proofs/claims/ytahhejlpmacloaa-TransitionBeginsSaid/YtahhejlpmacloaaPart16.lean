/- The walk of shortest.read: the links by routers. -/
import Derived.Test.YtahhejlpmacloaaPart14
import Derived.Test.YtahhejlpmacloaaPart15
import Derived.Test.YtahhejlpmacloaaPart10
namespace Go.Proofs.Ytahhejlpmacloaa
open Go Go.Eng

/-! ### rows under keys -/
abbrev Rows2 := List Int → List (Int × Int)
def updL (F : Rows2) (k : List Int) (l : List (Int × Int)) : Rows2 := fun k' => if k' = k then l else F k'
def addL (F : Rows2) (k : List Int) (x : Int × Int) : Rows2 := updL F k (F k ++ [x])

theorem grp_nil {F : Rows2} {k0 : List Int} : ∀ k, (updF (fun k => ((F k).length, stG (F k))) k0 nilRow k).1 = (updL F k0 [] k).length ∧ ∀ i, i < (updL F k0 [] k).length → ∀ j, j < 2 → cellM ((updF (fun k => ((F k).length, stG (F k))) k0 nilRow k).2 i j) (stG (updL F k0 [] k) i j) := by
  intro k
  unfold updF updL
  by_cases h : k = k0
  · rw [if_pos h, if_pos h]
    exact ⟨rfl, fun i hi => absurd hi (Nat.not_lt_zero i)⟩
  · rw [if_neg h, if_neg h]
    exact ⟨rfl, fun _ _ _ _ => cellM.refl _⟩

theorem st_app {l : List (Int × Int)} {x : Int × Int} {cs : List Cell} (hx : cs = [.val (.int .i64 x.1), .val (.int .i64 x.2)]) : ∀ i, i < (l ++ [x]).length → ∀ j, j < 2 → cellM (joinGet l.length (stG l) (cellAt cs 2) i j) (stG (l ++ [x]) i j) := by
  intro i hi j hj
  subst hx
  simp at hi
  have e : ∀ i, i < l.length → stAt (l ++ [x]) i = stAt l i := fun i h => by simp [stAt, List.getElem?_append, h]
  have e2 : stAt (l ++ [x]) l.length = x := by simp [stAt]
  unfold joinGet
  split
  · rename_i h
    match j, hj with
    | 0, _ => simp only [stG, e i h]; exact cellM.refl _
    | 1, _ => simp only [stG, e i h]; exact cellM.refl _
  · obtain rfl : i = l.length := by omega
    rw [Nat.sub_self]
    match j, hj with
    | 0, _ => simp only [stG, e2]; exact cellM.refl _
    | 1, _ => simp only [stG, e2]; exact cellM.refl _

theorem grp_add {F : Rows2} {k0 : List Int} {x : Int × Int} {cs : List Cell} (hx : cs = [.val (.int .i64 x.1), .val (.int .i64 x.2)]) :
    ∀ k, (updF (updF (fun k => ((F k).length, stG (F k))) k0 nilRow) k0 ((F k0).length + 1, joinGet (F k0).length (stG (F k0)) (cellAt cs 2)) k).1 = (addL F k0 x k).length ∧
      ∀ i, i < (addL F k0 x k).length → ∀ j, j < 2 → cellM ((updF (updF (fun k => ((F k).length, stG (F k))) k0 nilRow) k0 ((F k0).length + 1, joinGet (F k0).length (stG (F k0)) (cellAt cs 2)) k).2 i j) (stG (addL F k0 x k) i j) := by
  intro k
  unfold addL updL updF
  by_cases h : k = k0
  · rw [if_pos h, if_pos h]
    exact ⟨by simp, fun i hi j hj => st_app hx i hi j hj⟩
  · rw [if_neg h, if_neg h, if_neg h]
    exact ⟨rfl, fun _ _ _ _ => cellM.refl _⟩

theorem grp_set {F : Rows2} {k0 : List Int} {l : List (Int × Int)} {n : Nat} (hn : n = l.length) :
    ∀ k, (updF (updF (fun k => ((F k).length, stG (F k))) k0 nilRow) k0 (n, stG l) k).1 = (updL F k0 l k).length ∧
      ∀ i, i < (updL F k0 l k).length → ∀ j, j < 2 → cellM ((updF (updF (fun k => ((F k).length, stG (F k))) k0 nilRow) k0 (n, stG l) k).2 i j) (stG (updL F k0 l k) i j) := by
  intro k
  unfold updL updF
  by_cases h : k = k0
  · rw [if_pos h, if_pos h]
    exact ⟨hn, fun _ _ _ _ => cellM.refl _⟩
  · rw [if_neg h, if_neg h, if_neg h]
    exact ⟨rfl, fun _ _ _ _ => cellM.refl _⟩

/-! ### what read comes to -/
structure RdS where
  a : AM
  F : Rows2
  b : AM
  G : Rows2
def rd0 : RdS := ⟨⟨[], 0⟩, fun _ => [], ⟨[], 0⟩, fun _ => []⟩
def rdR (s : RdS) (x : Int) : RdS := ⟨s.a.setR [x], updL s.F [x] [], s.b.setR [x], updL s.G [x] []⟩
def rdL (s : RdS) (l : Lk) : RdS := ⟨(s.a.setR [l.a]).setR [l.b], addL (addL s.F [l.a] (l.b, l.ca)) [l.b] (l.a, l.cb), (s.b.setR [l.b]).setR [l.a], addL (addL s.G [l.b] (l.a, l.ca)) [l.a] (l.b, l.cb)⟩
def rdRs (R : List (Int × Bool)) (k : Nat) : RdS := (R.take k).foldl (fun s r => rdR s r.1) rd0
def rdLs (R : List (Int × Bool)) (L : List Lk) (k : Nat) : RdS := (L.take k).foldl rdL (rdRs R R.length)
def rdAll (R : List (Int × Bool)) (L : List Lk) : RdS := rdLs R L L.length
/-- The rows sorted, those under keys. -/
def sortF (a : AM) (F : Rows2) : Rows2 := fun k => if a.hasR k = true then sortL ltS (0, 0) (F k) else F k

theorem addL_len (F : Rows2) (k k' : List Int) (x : Int × Int) : (addL F k x k').length ≤ (F k').length + 1 := by
  unfold addL updL
  split
  · rename_i h
    subst h
    simp
  · omega
theorem rdLs_step {R : List (Int × Bool)} {L : List Lk} {k : Nat} (hk : k < L.length) : rdLs R L (k + 1) = rdL (rdLs R L k) (lkAt L k) := by
  rw [rdLs, List.take_succ_eq_append_getElem hk, List.foldl_append]
  have e : L[k] = lkAt L k := by simp [lkAt, hk]
  rw [e]
  rfl
theorem rdRs_step {R : List (Int × Bool)} {k : Nat} (hk : k < R.length) : rdRs R (k + 1) = rdR (rdRs R k) (rtAt R k).1 := by
  rw [rdRs, List.take_succ_eq_append_getElem hk, List.foldl_append]
  have e : R[k] = rtAt R k := by simp [rtAt, hk]
  rw [e]
  rfl
theorem rdRs_empty (R : List (Int × Bool)) (k : Nat) : (∀ x, (rdRs R k).F x = []) ∧ ∀ x, (rdRs R k).G x = [] := by
  have : ∀ (l : List (Int × Bool)) (s : RdS), ((∀ x, s.F x = []) ∧ ∀ x, s.G x = []) → (∀ x, (l.foldl (fun s r => rdR s r.1) s).F x = []) ∧ ∀ x, (l.foldl (fun s r => rdR s r.1) s).G x = [] := by
    intro l
    induction l with
    | nil => exact fun s h => h
    | cons r l ih =>
      intro s h
      refine ih _ ⟨fun x => ?_, fun x => ?_⟩
      · simp only [rdR, updL]; split; rfl; exact h.1 x
      · simp only [rdR, updL]; split; rfl; exact h.2 x
  exact this _ _ ⟨fun _ => rfl, fun _ => rfl⟩
theorem rdLs_len (R : List (Int × Bool)) (L : List Lk) (k : Nat) : (∀ x, ((rdLs R L k).F x).length ≤ 2 * k) ∧ ∀ x, ((rdLs R L k).G x).length ≤ 2 * k := by
  induction k with
  | zero =>
    have h := rdRs_empty R R.length
    have e : rdLs R L 0 = rdRs R R.length := rfl
    rw [e]
    exact ⟨fun x => by rw [h.1]; simp, fun x => by rw [h.2]; simp⟩
  | succ k ih =>
    rcases Nat.lt_or_ge k L.length with hk | hk
    · rw [rdLs_step hk]
      refine ⟨fun x => ?_, fun x => ?_⟩
      · have h1 := addL_len (rdLs R L k).F [(lkAt L k).a] x ((lkAt L k).b, (lkAt L k).ca)
        have h2 := addL_len (addL (rdLs R L k).F [(lkAt L k).a] ((lkAt L k).b, (lkAt L k).ca)) [(lkAt L k).b] x ((lkAt L k).a, (lkAt L k).cb)
        have h3 := ih.1 x
        simp only [rdL]
        omega
      · have h1 := addL_len (rdLs R L k).G [(lkAt L k).b] x ((lkAt L k).a, (lkAt L k).ca)
        have h2 := addL_len (addL (rdLs R L k).G [(lkAt L k).b] ((lkAt L k).a, (lkAt L k).ca)) [(lkAt L k).a] x ((lkAt L k).b, (lkAt L k).cb)
        have h3 := ih.2 x
        simp only [rdL]
        omega
    · have e : rdLs R L (k + 1) = rdLs R L k := by rw [rdLs, rdLs, List.take_of_length_le hk, List.take_of_length_le (Nat.le_succ_of_le hk)]
      rw [e]
      exact ⟨fun x => Nat.le_trans (ih.1 x) (by omega), fun x => Nat.le_trans (ih.2 x) (by omega)⟩

/-- The rows, sorted as far as their keys have been seen. -/
def seenB (a : AM) (seen : List Nat) (k : List Int) : Bool := a.es.any fun e => decide (e.k = k) && seen.contains e.b
def sortSeen (a : AM) (F : Rows2) (seen : List Nat) : Rows2 := fun k => if seenB a seen k = true then sortL ltS (0, 0) (F k) else F k
theorem sortSeen_nil (a : AM) (F : Rows2) : sortSeen a F [] = F := by
  funext k
  unfold sortSeen
  rw [if_neg]
  simp [seenB]
theorem seenB_iff {a : AM} {seen : List Nat} {k : List Int} : seenB a seen k = true ↔ ∃ e ∈ a.es, e.k = k ∧ e.b ∈ seen := by
  simp [seenB, List.any_eq_true]
theorem WF_key {a : AM} (h : a.WF) {e e' : MEnt} (he : e ∈ a.es) (he' : e' ∈ a.es) (hk : e.k = e'.k) : e = e' := by
  have := h.keys
  have aux : ∀ l : List MEnt, (l.map (·.k)).Nodup → e ∈ l → e' ∈ l → e = e' := by
    intro l
    induction l with
    | nil => intro _ h; cases h
    | cons x l ih =>
      intro hn h1 h2
      simp only [List.map_cons, List.nodup_cons] at hn
      rcases List.mem_cons.1 h1 with g1 | g1
      · rcases List.mem_cons.1 h2 with g2 | g2
        · rw [g1, g2]
        · exact absurd (List.mem_map.2 ⟨e', g2, by rw [← hk, g1]⟩) hn.1
      · rcases List.mem_cons.1 h2 with g2 | g2
        · exact absurd (List.mem_map.2 ⟨e, g1, by rw [hk, g2]⟩) hn.1
        · exact ih hn.2 g1 g2
  exact aux _ this he he'
theorem seenB_not {a : AM} (h : a.WF) {seen : List Nat} {e : MEnt} (he : e ∈ a.es) (hs : e.b ∉ seen) : seenB a seen e.k = false := by
  cases hb : seenB a seen e.k with
  | false => rfl
  | true =>
    obtain ⟨e', he', hk, hs'⟩ := seenB_iff.1 hb
    have := WF_key h he he' hk.symm
    subst this
    exact absurd hs' hs
theorem sortSeen_step {a : AM} (h : a.WF) {F : Rows2} {seen : List Nat} {e : MEnt} (he : e ∈ a.es) (hs : e.b ∉ seen) : sortSeen a F (seen ++ [e.b]) = updL (sortSeen a F seen) e.k (sortL ltS (0, 0) (sortSeen a F seen e.k)) := by
  funext k
  unfold updL sortSeen
  rw [seenB_not h he hs]
  by_cases hk : k = e.k
  · subst hk
    rw [if_pos rfl, if_pos (seenB_iff.2 ⟨e, he, rfl, by simp⟩)]
    simp
  · rw [if_neg hk]
    have : seenB a (seen ++ [e.b]) k = seenB a seen k := by
      rw [Bool.eq_iff_iff, seenB_iff, seenB_iff]
      refine ⟨?_, ?_⟩
      · rintro ⟨e', he', hk', hs'⟩
        rcases List.mem_append.1 hs' with hs' | hs'
        · exact ⟨e', he', hk', hs'⟩
        · have hb : e'.b = e.b := by simpa using hs'
          have aux : ∀ l : List MEnt, (l.map (·.b)).Nodup → e ∈ l → e' ∈ l → e' = e := by
            intro l
            induction l with
            | nil => intro _ h; cases h
            | cons x l ih =>
              intro hn h1 h2
              simp only [List.map_cons, List.nodup_cons] at hn
              rcases List.mem_cons.1 h1 with g1 | g1
              · rcases List.mem_cons.1 h2 with g2 | g2
                · rw [g1, g2]
                · exact absurd (List.mem_map.2 ⟨e', g2, by rw [hb, g1]⟩) hn.1
              · rcases List.mem_cons.1 h2 with g2 | g2
                · exact absurd (List.mem_map.2 ⟨e, g1, by rw [← hb, g2]⟩) hn.1
                · exact ih hn.2 g1 g2
          have := aux _ h.births he he'
          subst this
          exact absurd hk'.symm hk
      · rintro ⟨e', he', hk', hs'⟩
        exact ⟨e', he', hk', List.mem_append_left _ hs'⟩
    rw [this]
theorem sortSeen_all {a : AM} {F : Rows2} {seen : List Nat} (h : ∀ e ∈ a.es, e.b ∈ seen) : sortSeen a F seen = sortF a F := by
  funext k
  unfold sortSeen sortF
  have : seenB a seen k = a.hasR k := by
    rw [Bool.eq_iff_iff, seenB_iff, hasR_iff]
    exact ⟨fun ⟨e, he, hk, _⟩ => ⟨e, he, hk⟩, fun ⟨e, he, hk⟩ => ⟨e, he, hk, h e he⟩⟩
  rw [this]

def rdMem (R : List (Int × Bool)) (L : List Lk) (s : RdS) : List (Nat × Res) :=
  [(0, topoB R L), (1, .box 117 [.any, .any]), (2, .box 117 [.map 3, .map 5]), (3, .mapR 1 4 none s.a), (4, .grp 134 2 (fun k => ((s.F k).length, stG (s.F k)))), (5, .mapR 1 6 none s.b), (6, .grp 134 2 (fun k => ((s.G k).length, stG (s.G k))))]
def rA (R : List (Int × Bool)) (L : List Lk) (s : RdS) (k : Nat) : St := ⟨[(1, .one (.ptr 0 0)), (2, .one (.ptr 1 0)), (3, .one (.ptr 2 0)), (13, .one (.c (.sl R.length 2 (rtL R)))), (14, iv R.length), (15, iv k)], rdMem R L s⟩
def rB (R : List (Int × Bool)) (L : List Lk) (s : RdS) (k : Nat) : St := ⟨[(1, .one (.ptr 0 0)), (2, .one (.ptr 1 0)), (3, .one (.ptr 2 0)), (29, .one (.c (.sl L.length 5 (lkG L)))), (30, iv L.length), (31, iv k)], rdMem R L s⟩
def rB' (R : List (Int × Bool)) (L : List Lk) (s : RdS) (k : Nat) : St := ⟨[(1, .one (.ptr 0 0)), (2, .one (.ptr 1 0)), (3, .one (.ptr 2 0)), (7, .one (.ptr 7 0)), (29, .one (.c (.sl L.length 5 (lkG L)))), (30, iv L.length), (31, iv k)],
  rdMem R L s ++ [(7, .box 52 [.c (lkG L k 0), .c (lkG L k 1), .c (lkG L k 2), .c (lkG L k 3), .c (lkG L k 4)])]⟩

def rC (R : List (Int × Bool)) (L : List Lk) (s : RdS) (seen : List Nat) : St := ⟨[(2, .one (.ptr 1 0)), (3, .one (.ptr 2 0)), (102, .one (.it 7))], rdMem R L ⟨s.a, sortSeen s.a s.F seen, s.b, s.G⟩ ++ [(7, .iter 3 s.a.c seen s.a.c)]⟩
theorem rC_grp (R : List (Int × Bool)) (L : List Lk) (s : RdS) (seen : List Nat) : ∀ n g, (Res.mapR 1 4 none s.a) = .mapR n g none s.a → ∃ e sz f, Eng.look (rC R L s seen).mem g = some (.grp e sz f) := by
  intro n g h
  injection h with h1 h2
  subst h2
  exact ⟨_, _, _, rfl⟩

def spRead : FSpec
  | [.agg [.c (.sl nr 2 rt), .c (.sl nl 5 lk)]], [] =>
    some ⟨[nr ≤ 1000, nl ≤ 1000, rtOK nr rt, lkOK nl lk, ∀ k, ((rdAll (rts nr rt) (lks nl lk)).F k).length ≤ 12], .agg [.map 0, .map 2],
      [(0, .mapR 1 1 none (rdAll (rts nr rt) (lks nl lk)).a), (1, .grp 134 2 (fun k => ((sortF (rdAll (rts nr rt) (lks nl lk)).a (rdAll (rts nr rt) (lks nl lk)).F k).length, stG (sortF (rdAll (rts nr rt) (lks nl lk)).a (rdAll (rts nr rt) (lks nl lk)).F k)))),
       (2, .mapR 1 3 none (rdAll (rts nr rt) (lks nl lk)).b), (3, .grp 134 2 (fun k => (((rdAll (rts nr rt) (lks nl lk)).G k).length, stG ((rdAll (rts nr rt) (lks nl lk)).G k))))]⟩
  | _, _ => none

def HR : List (Nat × FSpec) := [(81, spSortF)]
set_option maxRecDepth 100000 in
theorem hHR : GOK Try.prog HR := GOK.cons (enters Try.func81 rfl (by kernel_rfl)) sortF_holds hG0

set_option maxRecDepth 100000 in
set_option maxHeartbeats 4000000 in
theorem read_holds : Holds Try.prog 64 spRead := by
  refine Holds.of hT Try.func64 rfl 113 rfl fun args bs out h hc => ?_
  unfold spRead at h
  split at h
  rotate_left
  · cases h
  rename_i nr rt nl lk
  simp only [Option.some.injEq] at h
  subst h
  obtain ⟨hn1, hn2, hr, hl, h12, _⟩ := hc
  refine ⟨by simp, by simp [Res.live], fun F hF => ?_⟩
  have hlr := rts_length nr rt
  have hll := lks_length nl lk
  generalize hR : rts nr rt = R at hlr h12 ⊢
  generalize hL : lks nl lk = L at hll h12 ⊢
  refine W.seqR hT hHR rfl (by (repeat' (first | assumption | exact rfl | exact trivial | omega | (dsimp only; omega) | refine ⟨?_, ?_⟩ | intro _ | (simp_all; done) | fail))) ?_
  refine W.cut (ρ := [(0, some 0), (1, some 16)]) (nx' := 2) (t := ⟨[(1, .one (.ptr 0 0)), (2, .one (.ptr 1 0))], [(0, topoB R L), (1, .box 117 [.any, .any])]⟩) ?_ ?_
  · refine ⟨by rw [hF]; rfl, ?_, ?_, rfl, rfl, rfl⟩ <;> (repeat' (first | exact rfl | exact trivial | exact cellM.refl _ | exact fun _ _ _ _ => cellM.refl _ | exact fun _ => ⟨rfl, fun _ _ _ _ => cellM.refl _⟩ | refine ⟨?_, ?_⟩ | fail))
    · exact hlr.symm
    · rw [hlr, ← hR]; exact rts_cell hr
    · exact hll.symm
    · rw [hll, ← hL]; exact lks_cell hl
  refine W.seqR hT hHR rfl (by (repeat' (first | assumption | exact rfl | exact trivial | omega | (dsimp only; omega) | refine ⟨?_, ?_⟩ | intro _ | (simp_all; done) | fail))) ?_
  refine W.seq (W.seqR hT hHR rfl (by (repeat' (first | assumption | exact rfl | exact trivial | omega | (dsimp only; omega) | refine ⟨?_, ?_⟩ | intro _ | (simp_all; done) | fail))) ?_)
  refine W.block (W.loop (γ := { k : Nat // k ≤ R.length }) (fun k => rA R L (rdRs R k.1) k.1) 7 (fun k => R.length - k.1) ⟨0, Nat.zero_le _⟩ [(0, some 0), (1, some 1), (2, some 50), (3, some 2), (4, some 3), (5, some 18), (6, some 19)] ?_ ?_)
  · refine ⟨by rw [hF]; rfl, ?_, ?_, rfl, rfl, rfl⟩ <;> (repeat' (first | exact rfl | exact trivial | exact cellM.refl _ | exact fun _ _ _ _ => cellM.refl _ | exact fun _ => ⟨rfl, fun _ _ _ _ => cellM.refl _⟩ | refine ⟨?_, ?_⟩ | fail))
    all_goals exact fun k => ⟨rfl, fun i hi => absurd hi (Nat.not_lt_zero i)⟩
  rintro ⟨k, hk⟩
  dsimp only at hk ⊢
  refine W.seqR hT hHR rfl (by (repeat' (first | assumption | exact rfl | exact trivial | omega | (dsimp only; omega) | refine ⟨?_, ?_⟩ | intro _ | (simp_all; done) | fail))) (W.seq (W.cond rfl (fun h1 => W.skip ?_) (fun h1 => W.exit ?_)))
  · have h1 : k < R.length := by have h1 : (k : Int) < (R.length : Int) := of_decide_eq_true h1; omega
    refine W.seq (W.block ?_)
    refine W.seqR hT hHR rfl (by (repeat' (first | assumption | exact rfl | exact trivial | omega | (dsimp only; omega) | refine ⟨?_, ?_⟩ | intro _ | (simp_all; done) | fail))) ?_
    refine W.regionDraw hT hHR (by repeat (first | exact runIt_nil | (apply runIt_cons; exact rfl))) (by kernel_rfl) hmix (by (repeat' (first | assumption | exact rfl | exact trivial | omega | (dsimp only; omega) | refine ⟨?_, ?_⟩ | intro _ | (simp_all; done) | fail))) ?_
    refine W.region hT hHR rfl (by (repeat' (first | assumption | exact rfl | exact trivial | omega | (dsimp only; omega) | refine ⟨?_, ?_⟩ | intro _ | (simp_all; done) | fail))) ?_
    refine ⟨⟨k + 1, by omega⟩, [(0, some 0), (1, some 1), (2, some 2), (3, some 3), (4, some 215), (5, some 5), (6, some 231)], ?_, ?_⟩
    · dsimp only
      rw [rdRs_step h1]
      refine ⟨by rw [hF]; rfl, ?_, ?_, rfl, rfl, rfl⟩ <;> (repeat' (first | exact rfl | exact trivial | exact cellM.refl _ | exact fun _ _ _ _ => cellM.refl _ | exact fun _ => ⟨rfl, fun _ _ _ _ => cellM.refl _⟩ | refine ⟨?_, ?_⟩ | fail))
      · show Value.int .i64 (IntKind.i64.wrap ((k : Int) + 1)) = Value.int .i64 ((k + 1 : Nat) : Int)
        rw [wi (by omega)]
        rfl
      · exact grp_nil
      · exact grp_nil
    · dsimp only
      omega
  have h1 : k = R.length := by have h1 : ¬ (k : Int) < (R.length : Int) := of_decide_eq_false h1; omega
  subst h1
  refine W.seq (W.seqR hT hHR rfl (by (repeat' (first | assumption | exact rfl | exact trivial | omega | (dsimp only; omega) | refine ⟨?_, ?_⟩ | intro _ | (simp_all; done) | fail))) ?_)
  refine W.block (W.loop (γ := { k : Nat // k ≤ L.length }) (fun k => rB R L (rdLs R L k.1) k.1) 7 (fun k => L.length - k.1) ⟨0, Nat.zero_le _⟩ [(0, some 0), (1, some 1), (2, some 2), (3, some 3), (4, some 4), (5, some 5), (6, some 6)] ?_ ?_)
  · refine ⟨by rw [hF]; rfl, ?_, ?_, rfl, rfl, rfl⟩ <;> (repeat' (first | exact rfl | exact trivial | exact cellM.refl _ | exact fun _ _ _ _ => cellM.refl _ | exact fun _ => ⟨rfl, fun _ _ _ _ => cellM.refl _⟩ | refine ⟨?_, ?_⟩ | fail))
  rintro ⟨k, hk⟩
  dsimp only at hk ⊢
  generalize hs : rdLs R L k = s
  have hFl : ∀ x, (s.F x).length ≤ 2 * k := by rw [← hs]; exact (rdLs_len R L k).1
  have hGl : ∀ x, (s.G x).length ≤ 2 * k := by rw [← hs]; exact (rdLs_len R L k).2
  refine W.seqR hT hHR rfl (by (repeat' (first | assumption | exact rfl | exact trivial | omega | (dsimp only; omega) | refine ⟨?_, ?_⟩ | intro _ | (simp_all; done) | fail))) (W.seq (W.cond rfl (fun h1 => W.skip ?_) (fun h1 => W.exit ?_)))
  · have h1 : k < L.length := by have h1 : (k : Int) < (L.length : Int) := of_decide_eq_true h1; omega
    refine W.seq (W.block ?_)
    refine W.seqR hT hHR rfl (by (repeat' (first | assumption | exact rfl | exact trivial | omega | (dsimp only; omega) | refine ⟨?_, ?_⟩ | intro _ | (simp_all; done) | fail))) ?_
    refine W.cut (ρ := [(0, some 0), (1, some 1), (2, some 2), (3, some 3), (4, some 4), (5, some 5), (6, some 6), (7, some 55)]) (nx' := 8) (t := rB' R L s k) ?_ ?_
    · refine ⟨by rw [hF]; rfl, ?_, ?_, rfl, rfl, rfl⟩ <;> (repeat' (first | exact rfl | exact trivial | exact cellM.refl _ | exact fun _ _ _ _ => cellM.refl _ | exact fun _ => ⟨rfl, fun _ _ _ _ => cellM.refl _⟩ | refine ⟨?_, ?_⟩ | fail))
    obtain ⟨a, F, b, G⟩ := s
    dsimp only at hFl hGl
    have hA1 := hFl [(lkAt L k).a]
    have hA2 := addL_len F [(lkAt L k).a] [(lkAt L k).b] ((lkAt L k).b, (lkAt L k).ca)
    have hA3 := hFl [(lkAt L k).b]
    have hB1 := hGl [(lkAt L k).b]
    have hB2 := addL_len G [(lkAt L k).b] [(lkAt L k).a] ((lkAt L k).a, (lkAt L k).ca)
    have hB3 := hGl [(lkAt L k).a]
    have c1 : (F [(lkAt L k).a]).length + 1 ≤ 9223372036854775807 := by omega
    have c2 : ((F [(lkAt L k).a]).length + 1) * 16 ≤ 140737488355328 := by omega
    have c3 : (addL F [(lkAt L k).a] ((lkAt L k).b, (lkAt L k).ca) [(lkAt L k).b]).length + 1 ≤ 9223372036854775807 := by omega
    have c4 : ((addL F [(lkAt L k).a] ((lkAt L k).b, (lkAt L k).ca) [(lkAt L k).b]).length + 1) * 16 ≤ 140737488355328 := by omega
    have c5 : (G [(lkAt L k).b]).length + 1 ≤ 9223372036854775807 := by omega
    have c6 : ((G [(lkAt L k).b]).length + 1) * 16 ≤ 140737488355328 := by omega
    have c7 : (addL G [(lkAt L k).b] ((lkAt L k).a, (lkAt L k).ca) [(lkAt L k).a]).length + 1 ≤ 9223372036854775807 := by omega
    have c8 : ((addL G [(lkAt L k).b] ((lkAt L k).a, (lkAt L k).ca) [(lkAt L k).a]).length + 1) * 16 ≤ 140737488355328 := by omega
    refine W.seq (W.regionDraw hT hHR (by repeat (first | exact runIt_nil | (apply runIt_cons; exact rfl))) (by kernel_rfl) hmix (by exact ⟨c1, c2, rfl, trivial⟩) ?_)
    refine W.cut (ρ := [(0, some 0), (1, some 1), (2, some 2), (3, some 3), (4, some 264), (5, some 5), (6, some 6), (7, some 7)]) (nx' := 8) (t := rB' R L ⟨a.setR [(lkAt L k).a], addL F [(lkAt L k).a] ((lkAt L k).b, (lkAt L k).ca), b, G⟩ k) ?_ ?_
    · refine ⟨by rw [hF]; rfl, ?_, ?_, rfl, rfl, rfl⟩ <;> (repeat' (first | exact rfl | exact trivial | exact cellM.refl _ | exact fun _ _ _ _ => cellM.refl _ | exact fun _ => ⟨rfl, fun _ _ _ _ => cellM.refl _⟩ | refine ⟨?_, ?_⟩ | fail))
      exact grp_add (F := F) (x := ((lkAt L k).b, (lkAt L k).ca)) rfl
    refine W.seq (W.regionDraw hT hHR (by repeat (first | exact runIt_nil | (apply runIt_cons; exact rfl))) (by kernel_rfl) hmix (by exact ⟨c3, c4, rfl, trivial⟩) ?_)
    refine W.cut (ρ := [(0, some 0), (1, some 1), (2, some 2), (3, some 3), (4, some 264), (5, some 5), (6, some 6), (7, some 7)]) (nx' := 8) (t := rB' R L ⟨(a.setR [(lkAt L k).a]).setR [(lkAt L k).b], addL (addL F [(lkAt L k).a] ((lkAt L k).b, (lkAt L k).ca)) [(lkAt L k).b] ((lkAt L k).a, (lkAt L k).cb), b, G⟩ k) ?_ ?_
    · refine ⟨by rw [hF]; rfl, ?_, ?_, rfl, rfl, rfl⟩ <;> (repeat' (first | exact rfl | exact trivial | exact cellM.refl _ | exact fun _ _ _ _ => cellM.refl _ | exact fun _ => ⟨rfl, fun _ _ _ _ => cellM.refl _⟩ | refine ⟨?_, ?_⟩ | fail))
      exact grp_add (F := addL F [(lkAt L k).a] ((lkAt L k).b, (lkAt L k).ca)) (x := ((lkAt L k).a, (lkAt L k).cb)) rfl
    refine W.seq (W.regionDraw hT hHR (by repeat (first | exact runIt_nil | (apply runIt_cons; exact rfl))) (by kernel_rfl) hmix (by exact ⟨c5, c6, rfl, trivial⟩) ?_)
    refine W.cut (ρ := [(0, some 0), (1, some 1), (2, some 2), (3, some 3), (4, some 4), (5, some 5), (6, some 264), (7, some 7)]) (nx' := 8) (t := rB' R L ⟨(a.setR [(lkAt L k).a]).setR [(lkAt L k).b], addL (addL F [(lkAt L k).a] ((lkAt L k).b, (lkAt L k).ca)) [(lkAt L k).b] ((lkAt L k).a, (lkAt L k).cb), b.setR [(lkAt L k).b], addL G [(lkAt L k).b] ((lkAt L k).a, (lkAt L k).ca)⟩ k) ?_ ?_
    · refine ⟨by rw [hF]; rfl, ?_, ?_, rfl, rfl, rfl⟩ <;> (repeat' (first | exact rfl | exact trivial | exact cellM.refl _ | exact fun _ _ _ _ => cellM.refl _ | exact fun _ => ⟨rfl, fun _ _ _ _ => cellM.refl _⟩ | refine ⟨?_, ?_⟩ | fail))
      exact grp_add (F := G) (x := ((lkAt L k).a, (lkAt L k).ca)) rfl
    refine W.regionDraw hT hHR (by repeat (first | exact runIt_nil | (apply runIt_cons; exact rfl))) (by kernel_rfl) hmix (by exact ⟨c7, c8, rfl, trivial⟩) ?_
    refine W.region hT hHR rfl (by (repeat' (first | assumption | exact rfl | exact trivial | omega | (dsimp only; omega) | refine ⟨?_, ?_⟩ | intro _ | (simp_all; done) | fail))) ?_
    refine ⟨⟨k + 1, by omega⟩, [(0, some 0), (1, some 1), (2, some 2), (3, some 3), (4, some 4), (5, some 5), (6, some 264)], ?_, ?_⟩
    · dsimp only
      rw [rdLs_step h1, hs]
      refine ⟨by rw [hF]; rfl, ?_, ?_, rfl, rfl, rfl⟩ <;> (repeat' (first | exact rfl | exact trivial | exact cellM.refl _ | exact fun _ _ _ _ => cellM.refl _ | exact fun _ => ⟨rfl, fun _ _ _ _ => cellM.refl _⟩ | refine ⟨?_, ?_⟩ | fail))
      · show Value.int .i64 (IntKind.i64.wrap ((k : Int) + 1)) = Value.int .i64 ((k + 1 : Nat) : Int)
        rw [wi (by omega)]
        rfl
      · exact grp_add (F := addL G [(lkAt L k).b] ((lkAt L k).a, (lkAt L k).ca)) (x := ((lkAt L k).b, (lkAt L k).cb)) rfl
    · dsimp only
      omega
  have h1 : k = L.length := by have h1 : ¬ (k : Int) < (L.length : Int) := of_decide_eq_false h1; omega
  subst h1
  have hs12 : ∀ x, (s.F x).length ≤ 12 := by rw [← hs]; exact h12
  refine W.seq (W.seqR hT hHR rfl (by (repeat' (first | assumption | exact rfl | exact trivial | omega | (dsimp only; omega) | refine ⟨?_, ?_⟩ | intro _ | (simp_all; done) | fail))) ?_)
  refine W.block (W.loop (γ := List Nat) (fun seen => rC R L s seen) 8 (fun seen => s.a.left seen) [] [(0, some 0), (1, some 1), (2, some 2), (3, some 3), (4, some 4), (5, some 5), (6, some 6), (7, some 55)] ?_ ?_)
  · rw [show rC R L s [] = ⟨[(2, .one (.ptr 1 0)), (3, .one (.ptr 2 0)), (102, .one (.it 7))], rdMem R L s ++ [(7, .iter 3 s.a.c [] s.a.c)]⟩ from by rw [rC, sortSeen_nil]]
    refine ⟨by rw [hF]; rfl, ?_, ?_, rfl, rfl, rfl⟩ <;> (repeat' (first | exact rfl | exact trivial | exact cellM.refl _ | exact fun _ _ _ _ => cellM.refl _ | exact fun _ => ⟨rfl, fun _ _ _ _ => cellM.refl _⟩ | refine ⟨?_, ?_⟩ | fail))
  intro seen
  refine W.seqO (WO.any rfl rfl rfl (next_any (t := 102) (m := 7) (m' := 3) (seen := seen) (r := .mapR 1 4 none s.a) (a := s.a) rfl rfl rfl rfl rfl (rC_grp R L s seen) _) ?_)
  rintro E ⟨hwf, ⟨rfl, hall⟩ | ⟨e, he, hkl, hne, rfl⟩⟩
  · refine WO.run 1 hT hHR rfl rfl trivial (WO.done (Nat.le_refl _) ?_)
    refine W.seq (W.cond rfl (fun h => by cases h) (fun _ => W.exit ?_))
    refine W.seqR hT hHR rfl (by (repeat' (first | assumption | exact rfl | exact trivial | omega | (dsimp only; omega) | refine ⟨?_, ?_⟩ | intro _ | (simp_all; done) | fail))) ?_
    subst hs
    have hsa := sortSeen_all (F := (rdLs R L L.length).F) hall
    refine W.ret ⟨_, [(0, some 3), (1, some 4), (2, some 5), (3, some 6)], rfl, rfl, ?_, ?_, rfl, rfl, rfl⟩ <;> (repeat' (first | exact rfl | exact trivial | exact cellM.refl _ | exact fun _ _ _ _ => cellM.refl _ | exact fun _ => ⟨rfl, fun _ _ _ _ => cellM.refl _⟩ | refine ⟨?_, ?_⟩ | fail))
    · dsimp only
      rw [hsa]
      exact fun k => ⟨rfl, fun _ _ _ _ => cellM.refl _⟩
  · obtain ⟨k, v, b⟩ := e
    obtain ⟨x, rfl⟩ := List.length_eq_one_iff.1 hkl
    refine WO.run 1 hT hHR rfl rfl trivial (WO.done (Nat.le_refl _) ?_)
    refine W.seq (W.cond rfl (fun _ => W.skip ?_) (fun h => by cases h))
    refine W.block (W.seqO (WO.any rfl rfl rfl (entry_any (t := 102) (m := 7) (m' := 3) (seen := seen) (r := .mapR 1 4 none s.a) (a := s.a) (e := ⟨[x], v, b⟩) rfl rfl rfl rfl rfl (fun n g h => by cases h; exact ⟨_, _, _, rfl⟩) he _) ?_))
    rintro E rfl
    refine WO.run 2 hT hHR rfl rfl trivial (WO.done (Nat.le_refl _) ?_)
    refine W.byOps (WO.run 4 hT hHR rfl rfl trivial ?_)
    refine WO.take (t := 110) (m := 3) (g := 4) (k := [x]) rfl rfl ?_
    have hl12 : (sortSeen s.a s.F seen [x]).length ≤ 12 := by
      unfold sortSeen
      split
      · rw [sortL_length]; exact hs12 _
      · exact hs12 _
    refine WO.run 1 hT hHR rfl rfl ⟨hl12, stG_ok _ _, trivial⟩ ?_
    refine WO.put 3 rfl (WO.done (Nat.le_refl _) ?_)
    refine ⟨seen ++ [b], [(0, some 0), (1, some 1), (2, some 2), (3, some 3), (4, some 184), (5, some 5), (6, some 6), (7, some 7)], ?_, AM.left_lt he hne⟩
    rw [show rC R L s (seen ++ [b]) = ⟨[(2, .one (.ptr 1 0)), (3, .one (.ptr 2 0)), (102, .one (.it 7))], rdMem R L ⟨s.a, updL (sortSeen s.a s.F seen) [x] (sortL ltS (0, 0) (sts (sortSeen s.a s.F seen [x]).length (stG (sortSeen s.a s.F seen [x])))), s.b, s.G⟩ ++ [(7, .iter 3 s.a.c (seen ++ [b]) s.a.c)]⟩ from by rw [rC, sortSeen_step (e := ⟨[x], v, b⟩) hwf he hne, sts_stG]]
    refine ⟨by rw [hF]; rfl, ?_, ?_, rfl, rfl, rfl⟩ <;> (repeat' (first | exact rfl | exact trivial | exact cellM.refl _ | exact fun _ _ _ _ => cellM.refl _ | exact fun _ => ⟨rfl, fun _ _ _ _ => cellM.refl _⟩ | refine ⟨?_, ?_⟩ | fail))
    exact grp_set (F := sortSeen s.a s.F seen) (k0 := [x]) (by rw [sortL_length, sts_length])
end Go.Proofs.Ytahhejlpmacloaa

/- The walk of shortest.distances. -/
namespace Go.Proofs.Ytahhejlpmacloaa
open Go Go.Eng

/-! ### what distances comes to -/
def kx (e : MEnt) : Int := e.k.getD 0 0
def leqE (e e' : MEnt) : Bool := decide (e.v < e'.v) || (decide (e.v = e'.v) && decide (kx e ≤ kx e'))
/-- The key of the least entry. -/
def bestV (o : AM) : Int := match o.es.find? (fun e => o.es.all fun e' => leqE e e') with
  | some e => kx e
  | none => 0
def relax1 (u : AM) (c : Int) (o : AM) (p : Int × Int) : AM :=
  if u.has [p.1] = true then o
  else if (if (!o.has [p.1]) = true then true else decide (IntKind.i64.wrap (c + p.2) < o.get [p.1])) = true then o.set [p.1] (IntKind.i64.wrap (c + p.2)) else o
def relaxK (u : AM) (c : Int) (l : List (Int × Int)) (o : AM) (k : Nat) : AM := (l.take k).foldl (relax1 u c) o
def djN (a : AM) (F : Rows2) : Nat → AM → AM → AM
  | 0, _, u => u
  | n + 1, o, u =>
    if o.es.length = 0 then u
    else if (u.set [bestV o] (o.get [bestV o])).es.length = a.es.length then u.set [bestV o] (o.get [bestV o])
    else djN a F n (relaxK (u.set [bestV o] (o.get [bestV o])) (o.get [bestV o]) (F [bestV o]) (o.del [bestV o]) (F [bestV o]).length) (u.set [bestV o] (o.get [bestV o]))
def a0 : AM := ⟨[], 0⟩
def distV (a : AM) (F : Rows2) (x : Int) : AM := if a.hasR [x] = true then djN a F (a.es.length + 1) (a0.set [x] 0) a0 else a0

/-- What is asked of the rows: keys are numbers other than 0, and lead to keys. -/
structure RowsOK (a : AM) (F : Rows2) : Prop where
  wf : a.WF
  keys : ∀ e ∈ a.es, ∃ x, x ≠ 0 ∧ e.k = [x]
  to : ∀ k, ∀ p ∈ F k, a.has [p.1] = true
structure DjI (a : AM) (o u : AM) : Prop where
  ow : o.WF
  uw : u.WF
  ok : ∀ e ∈ o.es, a.has e.k = true ∧ u.has e.k = false
  uk : ∀ e ∈ u.es, a.has e.k = true

/-- The least of the entries seen. -/
def BestOf (o : AM) (seen : List Nat) (b : Int) : Prop :=
  (b = 0 ∧ ∀ e ∈ o.es, e.b ∉ seen) ∨ ∃ e ∈ o.es, e.b ∈ seen ∧ e.k = [b] ∧ b ≠ 0 ∧ ∀ e' ∈ o.es, e'.b ∈ seen → leqE e e' = true

theorem leqE_iff {e e' : MEnt} : leqE e e' = true ↔ e.v < e'.v ∨ (e.v = e'.v ∧ kx e ≤ kx e') := by simp [leqE]

theorem bestV_eq {o : AM} {e : MEnt} {b : Int} (he : e ∈ o.es) (hk : e.k = [b]) (hm : ∀ e' ∈ o.es, leqE e e' = true) : bestV o = b := by
  unfold bestV
  cases hf : o.es.find? (fun e => o.es.all fun e' => leqE e e') with
  | none =>
    have := List.find?_eq_none.1 hf e he
    exact absurd (List.all_eq_true.2 hm) this
  | some e1 =>
    have h1 := List.all_eq_true.1 (List.find?_some (p := fun e => o.es.all fun e' => leqE e e') hf)
    have he1 := List.mem_of_find?_eq_some hf
    have g1 := leqE_iff.1 (h1 e he)
    have g2 := leqE_iff.1 (hm e1 he1)
    have : kx e = b := by rw [kx, hk]; rfl
    show kx e1 = b
    omega

theorem best_done {o : AM} {seen : List Nat} {b : Int} (h : BestOf o seen b) (hall : ∀ e ∈ o.es, e.b ∈ seen) (hne : o.es.length ≠ 0) : b = bestV o ∧ ∃ e ∈ o.es, e.k = [b] := by
  rcases h with ⟨_, h⟩ | ⟨e, he, _, hk, _, hm⟩
  · cases ho : o.es with
    | nil => rw [ho] at hne; simp at hne
    | cons e l =>
      have he : e ∈ o.es := by rw [ho]; exact List.mem_cons_self
      exact absurd (hall e he) (h e he)
  · exact ⟨(bestV_eq he hk (fun e' he' => hm e' he' (hall e' he'))).symm, e, he, hk⟩

theorem leqE_trans {x y z : MEnt} (h1 : leqE x y = true) (h2 : leqE y z = true) : leqE x z = true := by
  rw [leqE_iff] at *
  omega

/-- One more entry is seen. -/
theorem best_step {o : AM} (ho : o.WF) {seen : List Nat} {b x v : Int} {bb : Nat} (h : BestOf o seen b) (he : (⟨[x], v, bb⟩ : MEnt) ∈ o.es) (hx : x ≠ 0) {t : Bool}
    (ht : (if (if (b == 0) = true then true else decide (v < o.get [b])) = true then true else if (v == o.get [b]) = true then decide (x < b) else false) = t) : BestOf o (seen ++ [bb]) (if t = true then x else b) := by
  have back : ∀ e' ∈ o.es, e'.b ∈ seen ++ [bb] → e'.b ∈ seen ∨ e' = ⟨[x], v, bb⟩ := by
    intro e' he' hs
    rcases List.mem_append.1 hs with hs | hs
    · exact .inl hs
    · exact .inr (nodup_birth ho.births he' he (by simpa using hs))
  rcases h with ⟨rfl, h⟩ | ⟨e, hem, hs, hk, hb, hm⟩
  · rw [BEq.rfl, if_pos rfl, if_pos rfl] at ht
    subst ht
    refine .inr ⟨_, he, by simp, rfl, hx, fun e' he' hs' => ?_⟩
    rcases back e' he' hs' with h1 | rfl
    · exact absurd h1 (h e' he')
    · simp [leqE]
  · have hb0 : (b == 0) = false := by simpa using hb
    have hg : o.get [b] = e.v := by rw [← hk]; exact AM.get_mem ho hem
    rw [hb0, hg] at ht
    simp only [Bool.false_eq_true, if_false, decide_eq_true_eq] at ht
    have hkx : kx e = b := by rw [kx, hk]; rfl
    have hkx2 : kx (⟨[x], v, bb⟩ : MEnt) = x := rfl
    cases t with
    | true =>
      have hle : leqE ⟨[x], v, bb⟩ e = true := by
        rw [leqE_iff, hkx, hkx2]
        show v < e.v ∨ (v = e.v ∧ x ≤ b)
        by_cases h1 : v < e.v
        · exact .inl h1
        · by_cases h2 : v = e.v
          · simp [h2] at ht
            omega
          · simp [h1, h2] at ht
      refine .inr ⟨_, he, by simp, rfl, hx, fun e' he' hs' => ?_⟩
      rcases back e' he' hs' with h1 | rfl
      · exact leqE_trans hle (hm e' he' h1)
      · simp [leqE]
    | false =>
      have hle : leqE e ⟨[x], v, bb⟩ = true := by
        rw [leqE_iff, hkx, hkx2]
        show e.v < v ∨ (e.v = v ∧ b ≤ x)
        by_cases h1 : v < e.v
        · simp [h1] at ht
        · by_cases h2 : v = e.v
          · simp [h2] at ht
            omega
          · omega
      refine .inr ⟨e, hem, List.mem_append_left _ hs, hk, hb, fun e' he' hs' => ?_⟩
      rcases back e' he' hs' with h1 | rfl
      · exact hm e' he' h1
      · exact hle

theorem relaxK_step {u : AM} {c : Int} {l : List (Int × Int)} {o : AM} {k : Nat} (hk : k < l.length) : relaxK u c l o (k + 1) = relax1 u c (relaxK u c l o k) (stAt l k) := by
  rw [relaxK, List.take_succ_eq_append_getElem hk, List.foldl_append]
  have e : l[k] = stAt l k := by simp [stAt, hk]
  rw [e]
  rfl

theorem relax1_inv {a u o : AM} {c : Int} {p : Int × Int} (h : DjI a o u) (hp : a.has [p.1] = true) : DjI a (relax1 u c o p) u := by
  unfold relax1
  split
  · exact h
  · rename_i hu
    generalize (if (!o.has [p.1]) = true then true else decide (IntKind.i64.wrap (c + p.2) < o.get [p.1])) = t
    cases t with
    | true =>
      refine ⟨h.ow.set _ _, h.uw, fun e he => ?_, h.uk⟩
      rcases AM.mem_set h.ow e he with ⟨h1, _⟩ | ⟨_, h2⟩
      · rw [h1]
        exact ⟨hp, by simpa using hu⟩
      · exact h.ok e h2
    | false => exact h
theorem relaxK_inv {a u o : AM} {c : Int} {l : List (Int × Int)} (h : DjI a o u) (hp : ∀ p ∈ l, a.has [p.1] = true) : ∀ k, DjI a (relaxK u c l o k) u
  | 0 => h
  | k + 1 => by
    rcases Nat.lt_or_ge k l.length with hk | hk
    · rw [relaxK_step hk]
      exact relax1_inv (relaxK_inv h hp k) (hp _ (by
        have : stAt l k = l[k] := by simp [stAt, hk]
        rw [this]
        exact List.getElem_mem hk))
    · have e : relaxK u c l o (k + 1) = relaxK u c l o k := by rw [relaxK, relaxK, List.take_of_length_le hk, List.take_of_length_le (Nat.le_succ_of_le hk)]
      rw [e]
      exact relaxK_inv h hp k

theorem mem_del {a : AM} (h : a.WF) {k : List Int} {e : MEnt} (he : e ∈ (a.del k).es) : e ∈ a.es ∧ e.k ≠ k := by
  have h1 := AM.at_mem (h.del k) he
  rw [AM.at_del h] at h1
  split at h1
  · cases h1
  · rename_i hk
    unfold AM.del at he
    split at he
    · exact ⟨List.mem_of_mem_eraseIdx he, hk⟩
    · exact ⟨he, hk⟩

/-- The least entry goes over. -/
theorem dj_move {a o u : AM} (h : DjI a o u) {b c : Int} (hb : ∃ e ∈ o.es, e.k = [b]) : DjI a (o.del [b]) (u.set [b] c) ∧ (u.set [b] c).es.length = u.es.length + 1 ∧ u.es.length + 1 ≤ a.es.length := by
  obtain ⟨e, he, hk⟩ := hb
  obtain ⟨h1, h2⟩ := h.ok e he
  rw [hk] at h1 h2
  have hi : DjI a (o.del [b]) (u.set [b] c) := by
    refine ⟨h.ow.del _, h.uw.set _ _, fun e' he' => ?_, fun e' he' => ?_⟩
    · obtain ⟨g1, g2⟩ := mem_del h.ow he'
      obtain ⟨g3, g4⟩ := h.ok e' g1
      refine ⟨g3, ?_⟩
      rw [AM.has_eq, AM.at_set h.uw, if_neg g2, ← AM.has_eq]
      exact g4
    · rcases AM.mem_set h.uw e' he' with ⟨g1, _⟩ | ⟨_, g2⟩
      · rw [g1]; exact h1
      · exact h.uk e' g2
  have hl := AM.set_length (v := c) h2
  refine ⟨hi, hl, ?_⟩
  have := AM.len_le hi.uw hi.uk
  omega

/-! ### the walk -/
def dMem (a : AM) (F : Rows2) (u o : AM) : List (Nat × Res) := [(0, .mapR 1 1 none a), (1, .grp 134 2 (fun k => ((F k).length, stG (F k)))), (2, .mapI 1 0 u), (3, .mapI 1 0 o)]
def dA (a : AM) (F : Rows2) (u o : AM) : St := ⟨[(0, .one (.map 0)), (5, .one (.map 2)), (8, .one (.map 3))], dMem a F u o⟩
def dB (a : AM) (F : Rows2) (u o : AM) (seen : List Nat) (b : Int) : St := ⟨[(0, .one (.map 0)), (5, .one (.map 2)), (8, .one (.map 3)), (9, iv b), (36, .one (.it 4))], dMem a F u o ++ [(4, .iter 3 o.c seen o.c)]⟩
def dC (a : AM) (F : Rows2) (u o : AM) (b : Int) : St := ⟨[(0, .one (.map 0)), (5, .one (.map 2)), (8, .one (.map 3)), (9, iv b)], dMem a F u o⟩
def dD (a : AM) (F : Rows2) (u o : AM) (b c : Int) : St := ⟨[(0, .one (.map 0)), (5, .one (.map 2)), (8, .one (.map 3)), (9, iv b), (12, iv c)], dMem a F u o⟩
def dE (a : AM) (F : Rows2) (u o : AM) (b c : Int) (k : Nat) : St := ⟨[(0, .one (.map 0)), (5, .one (.map 2)), (8, .one (.map 3)), (9, iv b), (12, iv c), (79, .one (.mel 0 1 [b])), (80, iv (F [b]).length), (81, iv k)], dMem a F u o⟩
def dG (a : AM) (F : Rows2) (u o : AM) (b c : Int) (k : Nat) (p : Int × Int) : St := ⟨[(0, .one (.map 0)), (5, .one (.map 2)), (8, .one (.map 3)), (9, iv b), (12, iv c), (79, .one (.mel 0 1 [b])), (80, iv (F [b]).length), (81, iv k), (14, .one (.ptr 4 0))], dMem a F u o ++ [(4, .box 134 [.c (.val (.int .i64 p.1)), .c (.val (.int .i64 p.2))])]⟩

def rowsOf (f : List Int → Nat × Get) : Rows2 := fun k => sts (f k).1 (f k).2
def spDist : FSpec
  | [.one (.map 0), .one (.c (.val (.int .i64 x)))], [.mapR 1 1 none a, .grp 134 2 f] =>
    some ⟨[RowsOK a (rowsOf f), ∀ k, (f k).1 ≤ 1000000 ∧ stOK (f k).1 (f k).2], .one (.map 2), [(0, .mapR 1 1 none a), (1, .grp 134 2 f), (2, .mapI 1 0 (distV a (rowsOf f) x))]⟩
  | _, _ => none

set_option maxRecDepth 100000 in
set_option maxHeartbeats 4000000 in
theorem dist_holds : Holds Try.prog 63 spDist := by
  refine Holds.of hT Try.func63 rfl 119 rfl fun args bs out h hc => ?_
  unfold spDist at h
  split at h
  rotate_left
  · cases h
  rename_i x a f
  simp only [Option.some.injEq] at h
  subst h
  obtain ⟨hok, hf, _⟩ := hc
  refine ⟨by simp, by simp [Res.live], fun F hF => ?_⟩
  have hrest : ∀ k, (f k).1 = (rowsOf f k).length := fun k => (sts_length _ _).symm
  have hback : ∀ (k : List Int), (rowsOf f k).length = (f k).1 ∧ ∀ i, i < (f k).1 → ∀ j, j < 2 → cellM (stG (rowsOf f k) i j) ((f k).2 i j) := by
    intro k
    refine ⟨(hrest k).symm, fun i hi j hj => ?_⟩
    obtain ⟨h1, h2⟩ := (hf k).2 i hi
    have e : stG (rowsOf f k) i j = (f k).2 i j := by
      match j, hj with
      | 0, _ => simp [rowsOf, stG, stAt, sts, hi]; exact h1.symm
      | 1, _ => simp [rowsOf, stG, stAt, sts, hi]; exact h2.symm
    rw [e]
    exact cellM.refl _
  have hFl : ∀ k, (rowsOf f k).length ≤ 1000000 := fun k => by rw [← hrest]; exact (hf k).1
  refine W.cut (ρ := [(0, some 0), (1, some 1)]) (nx' := 2) (t := ⟨[(0, .one (.map 0)), (1, iv x)], [(0, .mapR 1 1 none a), (1, .grp 134 2 (fun k => ((rowsOf f k).length, stG (rowsOf f k))))]⟩) ?_ ?_
  · refine ⟨by rw [hF]; rfl, ?_, ?_, rfl, rfl, rfl⟩ <;> (repeat' (first | exact rfl | exact trivial | exact cellM.refl _ | exact fun _ _ _ _ => cellM.refl _ | exact fun _ => ⟨rfl, fun _ _ _ _ => cellM.refl _⟩ | refine ⟨?_, ?_⟩ | fail))
    intro k
    refine ⟨hrest k, fun i hi j hj => sts_cell (hf k).2 i (by rw [hrest]; exact hi) j hj⟩
  generalize hF0 : rowsOf f = Fw at hok hback hFl ⊢
  refine W.seqR hT hG0 rfl (by (repeat' (first | assumption | exact rfl | exact trivial | omega | (dsimp only; omega) | refine ⟨?_, ?_⟩ | intro _ | (simp_all; done) | fail))) ?_
  refine W.scope ?_
  refine W.seqR hT hG0 rfl (by (repeat' (first | assumption | exact rfl | exact trivial | omega | (dsimp only; omega) | refine ⟨?_, ?_⟩ | intro _ | (simp_all; done) | fail))) ?_
  refine W.seq ?_
  refine W.seqR hT hG0 rfl (by (repeat' (first | assumption | exact rfl | exact trivial | omega | (dsimp only; omega) | refine ⟨?_, ?_⟩ | intro _ | (simp_all; done) | fail))) ?_
  refine W.seqR hT hG0 rfl (by (repeat' (first | assumption | exact rfl | exact trivial | omega | (dsimp only; omega) | refine ⟨?_, ?_⟩ | intro _ | (simp_all; done) | fail))) (W.cond rfl (fun h1 => ?_) (fun h1 => W.skip ?_))
  · have h1 : a.hasR [x] = false := by simpa using h1
    refine W.seqR hT hG0 rfl (by (repeat' (first | assumption | exact rfl | exact trivial | omega | (dsimp only; omega) | refine ⟨?_, ?_⟩ | intro _ | (simp_all; done) | fail))) ?_
    refine W.ret ⟨_, [(0, some 0), (1, some 1), (2, some 18)], rfl, rfl, ?_, ?_, rfl, rfl, rfl⟩ <;> (repeat' (first | exact rfl | exact trivial | exact cellM.refl _ | exact fun _ _ _ _ => cellM.refl _ | exact fun _ => ⟨rfl, fun _ _ _ _ => cellM.refl _⟩ | refine ⟨?_, ?_⟩ | fail))
    · exact hback
    · unfold distV
      rw [if_neg (by rw [h1]; exact Bool.false_ne_true)]
      exact rfl
  have h1 : a.hasR [x] = true := by simpa using h1
  have hd0 : distV a Fw x = djN a Fw (a.es.length + 1) (a0.set [x] 0) a0 := by rw [distV, if_pos h1]
  have hj0 : DjI a (a0.set [x] 0) a0 := by
    have hw0 : a0.WF := ⟨List.nodup_nil, List.nodup_nil, fun e he => by cases he⟩
    refine ⟨hw0.set _ _, hw0, fun e he => ?_, fun e he => by cases he⟩
    have : e.k = [x] := by
      rcases AM.mem_set hw0 e he with ⟨h, _⟩ | ⟨_, h⟩
      · exact h
      · cases h
    rw [this]
    exact ⟨by rw [← AM.hasR_eq]; exact h1, rfl⟩
  refine W.seqR hT hG0 rfl (by (repeat' (first | assumption | exact rfl | exact trivial | omega | (dsimp only; omega) | refine ⟨?_, ?_⟩ | intro _ | (simp_all; done) | fail))) ?_
  refine W.seq (W.label ?_)
  refine W.seq (W.block (W.loop (γ := { p : AM × AM // DjI a p.1 p.2 ∧ ∃ n, a.es.length < n + p.2.es.length ∧ djN a Fw n p.1 p.2 = distV a Fw x }) (fun p => dA a Fw p.1.2 p.1.1) 4 (fun p => a.es.length - p.1.2.es.length) ⟨(a0.set [x] 0, a0), hj0, _, by simp [a0], hd0.symm⟩ [(0, some 0), (1, some 1), (2, some 18), (3, some 210)] ?_ ?_))
  · refine ⟨by rw [hF]; rfl, ?_, ?_, rfl, rfl, rfl⟩ <;> (repeat' (first | exact rfl | exact trivial | exact cellM.refl _ | exact fun _ _ _ _ => cellM.refl _ | exact fun _ => ⟨rfl, fun _ _ _ _ => cellM.refl _⟩ | refine ⟨?_, ?_⟩ | fail))
  rintro ⟨⟨o, u⟩, hj, n, hn, hdj⟩
  dsimp only at hj hn hdj ⊢
  have hul := AM.len_le hj.uw hj.uk
  obtain ⟨n, rfl⟩ : ∃ k, n = k + 1 := ⟨n - 1, by omega⟩
  rw [djN] at hdj
  clear hd0 hj0
  refine W.seq (W.seqR hT hG0 rfl (by (repeat' (first | assumption | exact rfl | exact trivial | omega | (dsimp only; omega) | refine ⟨?_, ?_⟩ | intro _ | (simp_all; done) | fail))) (W.cond rfl (fun h2 => W.skip ?_) (fun h2 => W.exit ?_)))
  rotate_left
  · have h2 : o.es.length = 0 := by have h2 : ¬ (o.es.length : Int) > 0 := of_decide_eq_false h2; omega
    rw [if_pos h2] at hdj
    refine W.seqR hT hG0 rfl (by (repeat' (first | assumption | exact rfl | exact trivial | omega | (dsimp only; omega) | refine ⟨?_, ?_⟩ | intro _ | (simp_all; done) | fail))) ?_
    refine W.ret ⟨_, [(0, some 0), (1, some 1), (2, some 2)], rfl, rfl, ?_, ?_, rfl, rfl, rfl⟩ <;> (repeat' (first | exact rfl | exact trivial | exact cellM.refl _ | exact fun _ _ _ _ => cellM.refl _ | exact fun _ => ⟨rfl, fun _ _ _ _ => cellM.refl _⟩ | refine ⟨?_, ?_⟩ | fail))
    · exact hback
    · rw [← hdj]
  have h2 : ¬ o.es.length = 0 := by have h2 : (o.es.length : Int) > 0 := of_decide_eq_true h2; omega
  rw [if_neg h2] at hdj
  refine W.block ?_
  refine W.seqR hT hG0 rfl (by (repeat' (first | assumption | exact rfl | exact trivial | omega | (dsimp only; omega) | refine ⟨?_, ?_⟩ | intro _ | (simp_all; done) | fail))) ?_
  refine W.seq (W.seqR hT hG0 rfl (by (repeat' (first | assumption | exact rfl | exact trivial | omega | (dsimp only; omega) | refine ⟨?_, ?_⟩ | intro _ | (simp_all; done) | fail))) ?_)
  refine W.block (W.loop (γ := { p : List Nat × Int // BestOf o p.1 p.2 }) (fun p => dB a Fw u o p.1.1 p.1.2) 5 (fun p => o.left p.1.1) ⟨([], 0), .inl ⟨rfl, fun e _ => by simp⟩⟩ [(0, some 0), (1, some 1), (2, some 2), (3, some 3), (4, some 84)] ?_ ?_)
  · refine ⟨by rw [hF]; rfl, ?_, ?_, rfl, rfl, rfl⟩ <;> (repeat' (first | exact rfl | exact trivial | exact cellM.refl _ | exact fun _ _ _ _ => cellM.refl _ | exact fun _ => ⟨rfl, fun _ _ _ _ => cellM.refl _⟩ | refine ⟨?_, ?_⟩ | fail))
  rintro ⟨⟨seen, b⟩, hb⟩
  dsimp only at hb ⊢
  refine W.seqO (WO.any rfl rfl rfl (next_any (t := 36) (m := 4) (m' := 3) (seen := seen) (r := .mapI 1 0 o) (a := o) rfl rfl rfl rfl rfl (fun n g h => by cases h) _) ?_)
  rintro E ⟨_, ⟨rfl, hall⟩ | ⟨e, he, hkl, hne, rfl⟩⟩
  · refine WO.run 1 hT hG0 rfl rfl trivial (WO.done (Nat.le_refl _) ?_)
    refine W.seq (W.cond rfl (fun h => by cases h) (fun _ => W.exit ?_))
    obtain ⟨rfl, hbk⟩ := best_done hb hall h2
    refine W.cut (ρ := [(0, some 0), (1, some 1), (2, some 2), (3, some 3)]) (nx' := 4) (t := dC a Fw u o (bestV o)) ?_ ?_
    · refine ⟨by rw [hF]; rfl, ?_, ?_, rfl, rfl, rfl⟩ <;> (repeat' (first | exact rfl | exact trivial | exact cellM.refl _ | exact fun _ _ _ _ => cellM.refl _ | exact fun _ => ⟨rfl, fun _ _ _ _ => cellM.refl _⟩ | refine ⟨?_, ?_⟩ | fail))
    clear hb hall
    obtain ⟨hj', hl', hle⟩ := dj_move (c := o.get [bestV o]) hj hbk
    generalize bestV o = b at hdj hj' hl' hle ⊢
    refine W.seqR hT hG0 rfl (by (repeat' (first | assumption | exact rfl | exact trivial | omega | (dsimp only; omega) | refine ⟨?_, ?_⟩ | intro _ | (simp_all; done) | fail))) ?_
    refine W.seqR hT hG0 rfl (by (repeat' (first | assumption | exact rfl | exact trivial | omega | (dsimp only; omega) | refine ⟨?_, ?_⟩ | intro _ | (simp_all; done) | fail))) ?_
    refine W.seqR hT hG0 rfl (by (repeat' (first | assumption | exact rfl | exact trivial | omega | (dsimp only; omega) | refine ⟨?_, ?_⟩ | intro _ | (simp_all; done) | fail))) ?_
    refine W.cut (ρ := [(0, some 0), (1, some 1), (2, some 2), (3, some 3)]) (nx' := 4) (t := dD a Fw (u.set [b] (o.get [b])) (o.del [b]) b (o.get [b])) ?_ ?_
    · refine ⟨by rw [hF]; rfl, ?_, ?_, rfl, rfl, rfl⟩ <;> (repeat' (first | exact rfl | exact trivial | exact cellM.refl _ | exact fun _ _ _ _ => cellM.refl _ | exact fun _ => ⟨rfl, fun _ _ _ _ => cellM.refl _⟩ | refine ⟨?_, ?_⟩ | fail))
    generalize o.get [b] = c at hdj hj' hl' ⊢
    generalize o.del [b] = o1 at hdj hj' ⊢
    generalize u.set [b] c = u1 at hdj hj' hl' ⊢
    refine W.seq (W.seqR hT hG0 rfl (by (repeat' (first | assumption | exact rfl | exact trivial | omega | (dsimp only; omega) | refine ⟨?_, ?_⟩ | intro _ | (simp_all; done) | fail))) (W.cond rfl (fun h4 => ?_) (fun h4 => W.skip ?_)))
    · have h4 : u1.es.length = a.es.length := by
        have h4 : (u1.es.length : Int) = (a.es.length : Int) := by simpa using h4
        omega
      rw [if_pos h4] at hdj
      refine W.exit ?_
      refine W.seqR hT hG0 rfl (by (repeat' (first | assumption | exact rfl | exact trivial | omega | (dsimp only; omega) | refine ⟨?_, ?_⟩ | intro _ | (simp_all; done) | fail))) ?_
      refine W.ret ⟨_, [(0, some 0), (1, some 1), (2, some 2)], rfl, rfl, ?_, ?_, rfl, rfl, rfl⟩ <;> (repeat' (first | exact rfl | exact trivial | exact cellM.refl _ | exact fun _ _ _ _ => cellM.refl _ | exact fun _ => ⟨rfl, fun _ _ _ _ => cellM.refl _⟩ | refine ⟨?_, ?_⟩ | fail))
      · exact hback
      · rw [← hdj]
    have h4 : ¬ u1.es.length = a.es.length := by
      have h4 : ¬ (u1.es.length : Int) = (a.es.length : Int) := by simpa using h4
      omega
    rw [if_neg h4] at hdj
    refine W.seqR hT hG0 rfl (by (repeat' (first | assumption | exact rfl | exact trivial | omega | (dsimp only; omega) | refine ⟨?_, ?_⟩ | intro _ | (simp_all; done) | fail))) ?_
    refine W.block (W.loop (γ := { k : Nat // k ≤ (Fw [b]).length }) (fun k => dE a Fw u1 (relaxK u1 c (Fw [b]) o1 k.1) b c k.1) 4 (fun k => (Fw [b]).length - k.1) ⟨0, Nat.zero_le _⟩ [(0, some 0), (1, some 1), (2, some 2), (3, some 3)] ?_ ?_)
    · refine ⟨by rw [hF]; rfl, ?_, ?_, rfl, rfl, rfl⟩ <;> (repeat' (first | exact rfl | exact trivial | exact cellM.refl _ | exact fun _ _ _ _ => cellM.refl _ | exact fun _ => ⟨rfl, fun _ _ _ _ => cellM.refl _⟩ | refine ⟨?_, ?_⟩ | fail))
    rintro ⟨k, hk⟩
    dsimp only at hk ⊢
    refine W.seqR hT hG0 rfl (by (repeat' (first | assumption | exact rfl | exact trivial | omega | (dsimp only; omega) | refine ⟨?_, ?_⟩ | intro _ | (simp_all; done) | fail))) (W.seq (W.cond rfl (fun h5 => W.skip ?_) (fun h5 => W.exit ?_)))
    rotate_left
    · have h5 : k = (Fw [b]).length := by have h5 : ¬ (k : Int) < ((Fw [b]).length : Int) := of_decide_eq_false h5; omega
      subst h5
      refine ⟨⟨(relaxK u1 c (Fw [b]) o1 (Fw [b]).length, u1), relaxK_inv hj' (hok.to [b]) _, n, (by show a.es.length < n + u1.es.length; omega), hdj⟩, [(0, some 0), (1, some 1), (2, some 2), (3, some 3)], ?_, ?_⟩
      · refine ⟨by rw [hF]; rfl, ?_, ?_, rfl, rfl, rfl⟩ <;> (repeat' (first | exact rfl | exact trivial | exact cellM.refl _ | exact fun _ _ _ _ => cellM.refl _ | exact fun _ => ⟨rfl, fun _ _ _ _ => cellM.refl _⟩ | refine ⟨?_, ?_⟩ | fail))
      · dsimp only
        omega
    have h5 : k < (Fw [b]).length := by have h5 : (k : Int) < ((Fw [b]).length : Int) := of_decide_eq_true h5; omega
    have hstep := relaxK_step (u := u1) (c := c) (o := o1) h5
    generalize hok' : relaxK u1 c (Fw [b]) o1 k = ok at hstep ⊢
    generalize hp : stAt (Fw [b]) k = p at hstep
    refine W.seq (W.block ?_)
    refine W.seqR hT hG0 rfl (by (repeat' (first | assumption | exact rfl | exact trivial | omega | (dsimp only; omega) | refine ⟨?_, ?_⟩ | intro _ | (simp_all; done) | fail))) ?_
    refine W.cut (ρ := [(0, some 0), (1, some 1), (2, some 2), (3, some 3), (4, some 52)]) (nx' := 5) (t := dG a Fw u1 ok b c k p) ?_ ?_
    · subst hp
      refine ⟨by rw [hF]; rfl, ?_, ?_, rfl, rfl, rfl⟩ <;> (repeat' (first | exact rfl | exact trivial | exact cellM.refl _ | exact fun _ _ _ _ => cellM.refl _ | exact fun _ => ⟨rfl, fun _ _ _ _ => cellM.refl _⟩ | refine ⟨?_, ?_⟩ | fail))
    refine W.seq ?_
    refine W.seqR hT hG0 rfl (by (repeat' (first | assumption | exact rfl | exact trivial | omega | (dsimp only; omega) | refine ⟨?_, ?_⟩ | intro _ | (simp_all; done) | fail))) ?_
    refine W.seqR hT hG0 rfl (by (repeat' (first | assumption | exact rfl | exact trivial | omega | (dsimp only; omega) | refine ⟨?_, ?_⟩ | intro _ | (simp_all; done) | fail))) (W.cond rfl (fun h6 => W.exit ?_) (fun h6 => W.skip ?_))
    · refine W.region hT hG0 rfl (by (repeat' (first | assumption | exact rfl | exact trivial | omega | (dsimp only; omega) | refine ⟨?_, ?_⟩ | intro _ | (simp_all; done) | fail))) ?_
      refine ⟨⟨k + 1, by omega⟩, [(0, some 0), (1, some 1), (2, some 2), (3, some 3)], ?_, ?_⟩
      · dsimp only
        rw [hstep, relax1, if_pos h6]
        refine ⟨by rw [hF]; rfl, ?_, ?_, rfl, rfl, rfl⟩ <;> (repeat' (first | exact rfl | exact trivial | exact cellM.refl _ | exact fun _ _ _ _ => cellM.refl _ | exact fun _ => ⟨rfl, fun _ _ _ _ => cellM.refl _⟩ | refine ⟨?_, ?_⟩ | fail))
        show Value.int .i64 (IntKind.i64.wrap ((k : Int) + 1)) = Value.int .i64 ((k + 1 : Nat) : Int)
        have := hFl [b]
        rw [wi (by omega)]
        rfl
      · dsimp only
        omega
    have h6 : ¬ u1.has [p.1] = true := by rw [h6]; exact Bool.false_ne_true
    refine W.seqR hT hG0 rfl (by (repeat' (first | assumption | exact rfl | exact trivial | omega | (dsimp only; omega) | refine ⟨?_, ?_⟩ | intro _ | (simp_all; done) | fail))) ?_
    refine W.seqR hT hG0 rfl ?_ (W.cond rfl (fun h7 => ?_) (fun h7 => W.skip ?_))
    · have g1 : ∀ {t : Bool}, t = false → (!t) = true := by rintro _ rfl; rfl
      exact ⟨fun _ => trivial, fun _ => trivial, fun h => ⟨h, trivial⟩, fun h => ⟨h, h, rfl, trivial⟩, fun _ => trivial, fun h => ⟨h, h, rfl, trivial⟩, fun _ => rfl, g1, trivial⟩
    · refine W.region hT hG0 rfl (by (repeat' (first | assumption | exact rfl | exact trivial | omega | (dsimp only; omega) | refine ⟨?_, ?_⟩ | intro _ | (simp_all; done) | fail))) ?_
      refine W.region hT hG0 rfl (by (repeat' (first | assumption | exact rfl | exact trivial | omega | (dsimp only; omega) | refine ⟨?_, ?_⟩ | intro _ | (simp_all; done) | fail))) ?_
      refine ⟨⟨k + 1, by omega⟩, [(0, some 0), (1, some 1), (2, some 2), (3, some 3)], ?_, ?_⟩
      · dsimp only
        rw [hstep, relax1, if_neg h6, if_pos h7]
        refine ⟨by rw [hF]; rfl, ?_, ?_, rfl, rfl, rfl⟩ <;> (repeat' (first | exact rfl | exact trivial | exact cellM.refl _ | exact fun _ _ _ _ => cellM.refl _ | exact fun _ => ⟨rfl, fun _ _ _ _ => cellM.refl _⟩ | refine ⟨?_, ?_⟩ | fail))
        show Value.int .i64 (IntKind.i64.wrap ((k : Int) + 1)) = Value.int .i64 ((k + 1 : Nat) : Int)
        have := hFl [b]
        rw [wi (by omega)]
        rfl
      · dsimp only
        omega
    · have h7 : ¬ (if (!ok.has [p.1]) = true then true else decide (IntKind.i64.wrap (c + p.2) < ok.get [p.1])) = true := by rw [h7]; exact Bool.false_ne_true
      refine W.region hT hG0 rfl (by (repeat' (first | assumption | exact rfl | exact trivial | omega | (dsimp only; omega) | refine ⟨?_, ?_⟩ | intro _ | (simp_all; done) | fail))) ?_
      refine ⟨⟨k + 1, by omega⟩, [(0, some 0), (1, some 1), (2, some 2), (3, some 3)], ?_, ?_⟩
      · dsimp only
        rw [hstep, relax1, if_neg h6, if_neg h7]
        refine ⟨by rw [hF]; rfl, ?_, ?_, rfl, rfl, rfl⟩ <;> (repeat' (first | exact rfl | exact trivial | exact cellM.refl _ | exact fun _ _ _ _ => cellM.refl _ | exact fun _ => ⟨rfl, fun _ _ _ _ => cellM.refl _⟩ | refine ⟨?_, ?_⟩ | fail))
        show Value.int .i64 (IntKind.i64.wrap ((k : Int) + 1)) = Value.int .i64 ((k + 1 : Nat) : Int)
        have := hFl [b]
        rw [wi (by omega)]
        rfl
      · dsimp only
        omega
  · obtain ⟨k, v, bb⟩ := e
    obtain ⟨y, rfl⟩ := List.length_eq_one_iff.1 hkl
    refine WO.run 1 hT hG0 rfl rfl trivial (WO.done (Nat.le_refl _) ?_)
    refine W.seq (W.cond rfl (fun _ => W.skip ?_) (fun h => by cases h))
    have hy : y ≠ 0 := by
      obtain ⟨g1, _⟩ := hj.ok _ he
      obtain ⟨e', he', hk'⟩ := AM.has_iff.1 g1
      obtain ⟨z, hz, hzk⟩ := hok.keys e' he'
      rw [hk'] at hzk
      injection hzk with hzk
      rw [hzk]
      exact hz
    refine W.block (W.seqO (WO.any rfl rfl rfl (entry_any (t := 36) (m := 4) (m' := 3) (seen := seen) (r := .mapI 1 0 o) (a := o) (e := ⟨[y], v, bb⟩) rfl rfl rfl rfl rfl (fun n g h => by cases h) he _) ?_))
    rintro E rfl
    refine WO.run 4 hT hG0 rfl rfl trivial (WO.done (Nat.le_refl _) ?_)
    refine W.seqR hT hG0 rfl ?_ (W.cond rfl (fun h3 => ?_) (fun h3 => W.skip ?_))
    · clear hdj hn hul hback hFl hok
      have g1 : ∀ {t : Bool}, t = false → (!t) = true := by rintro _ rfl; rfl
      have g2 : ∀ {t u : Bool}, t = true → (if t = true then true else u) = true := by rintro _ _ rfl; rfl
      exact ⟨rfl, fun _ => trivial, fun _ => trivial, fun _ => trivial, fun h => ⟨h, h, trivial⟩, fun h => ⟨h, h, rfl, trivial⟩, fun _ => rfl, g1, fun _ => trivial, fun _ => trivial, fun _ => trivial, fun h => ⟨h, h, trivial⟩, fun h => ⟨h, h, rfl, trivial⟩, fun _ => trivial, fun _ => trivial, fun _ => trivial, fun h => ⟨h, h, rfl, trivial⟩, fun h => ⟨by simp_all, by simp_all, by simp_all, trivial⟩, fun _ => rfl, g1, trivial⟩
    · have h3 := best_step hj.ow hb he hy h3
      refine W.region hT hG0 rfl (by (repeat' (first | assumption | exact rfl | exact trivial | omega | (dsimp only; omega) | refine ⟨?_, ?_⟩ | intro _ | (simp_all; done) | fail))) ?_
      refine ⟨⟨(seen ++ [bb], y), h3⟩, [(0, some 0), (1, some 1), (2, some 2), (3, some 3), (4, some 4)], ?_, AM.left_lt he hne⟩
      refine ⟨by rw [hF]; rfl, ?_, ?_, rfl, rfl, rfl⟩ <;> (repeat' (first | exact rfl | exact trivial | exact cellM.refl _ | exact fun _ _ _ _ => cellM.refl _ | exact fun _ => ⟨rfl, fun _ _ _ _ => cellM.refl _⟩ | refine ⟨?_, ?_⟩ | fail))
    · have h3 := best_step hj.ow hb he hy h3
      refine ⟨⟨(seen ++ [bb], b), h3⟩, [(0, some 0), (1, some 1), (2, some 2), (3, some 3), (4, some 4)], ?_, AM.left_lt he hne⟩
      refine ⟨by rw [hF]; rfl, ?_, ?_, rfl, rfl, rfl⟩ <;> (repeat' (first | exact rfl | exact trivial | exact cellM.refl _ | exact fun _ _ _ _ => cellM.refl _ | exact fun _ => ⟨rfl, fun _ _ _ _ => cellM.refl _⟩ | refine ⟨?_, ?_⟩ | fail))
end Go.Proofs.Ytahhejlpmacloaa
