/- The walk of Ranks. -/
import Derived.Test.YtahhejlpmacloaaPart20
namespace Go.Proofs.Ytahhejlpmacloaa
open Go Go.Eng

def HD7 : List (Nat × FSpec) := [(18, spReadT), (19, spBehind)]
set_option maxRecDepth 100000 in
theorem hHD7 : GOK Try.prog HD7 := GOK.cons (enters Try.func18 rfl (by kernel_rfl)) readT_holds (GOK.cons (enters Try.func19 rfl (by kernel_rfl)) behind_holds hG0)

def rkA (R : List (Int × Bool)) (L : List Lk) (c : Chg) : St := ⟨[(2, .one (.ptr 0 0)), (3, .one (.ptr 1 0))], [(0, topoB R L), (1, chgB c)]⟩
def rkB (R : List (Int × Bool)) (L : List Lk) (rd : RdV) : St := ⟨[(2, .one (.ptr 0 0)), (6, iv rd.kind), (7, .one (.ptr 1 0)), (8, .one (.own 2)), (9, iv rd.e)], [(0, topoB R L), (1, topoB rd.R rd.L), (2, .row 72 2 rd.dirs.length (stG rd.dirs))]⟩
def rkC (R : List (Int × Bool)) (L : List Lk) (kind : Int) (x : BhS) : St := ⟨[(2, .one (.ptr 0 0)), (6, iv kind), (10, .one (.ptr 1 0))], [(0, topoB R L), (1, .box 58 [.map 2]), (2, .mapR 1 3 none x.a), (3, .grp 3 1 (fun k => ((x.G k).length, inG (x.G k))))]⟩
def rkD (R : List (Int × Bool)) (L : List Lk) (x : BhS) (kn : AM) (l : List (Int × Int)) (k : Nat) : St :=
  ⟨[(2, .one (.ptr 0 0)), (12, .one (.ptr 3 0)), (13, .one (.own 7)), (37, .one (.c (.sl R.length 2 (rtL R)))), (38, iv R.length), (39, iv k)],
    [(0, topoB R L), (1, .box 61 [.map 4]), (2, .box 58 [.map 5]), (3, .box 50 [.clo 21 [(1, 0), (2, 0), (3, 0)]]), (4, .mapI 1 0 kn), (5, .mapR 1 6 none x.a), (6, .grp 3 1 (fun k => ((x.G k).length, inG (x.G k)))), (7, .row 64 2 l.length (stG l))]⟩
def rkE (R : List (Int × Bool)) (L : List Lk) (x : BhS) (kn : AM) (l : List (Int × Int)) (k : Nat) (r : Int × Bool) : St :=
  ⟨[(2, .one (.ptr 0 0)), (12, .one (.ptr 3 0)), (13, .one (.own 7)), (37, .one (.c (.sl R.length 2 (rtL R)))), (38, iv R.length), (39, iv k), (15, .one (.ptr 8 0))],
    [(0, topoB R L), (1, .box 61 [.map 4]), (2, .box 58 [.map 5]), (3, .box 50 [.clo 21 [(1, 0), (2, 0), (3, 0)]]), (4, .mapI 1 0 kn), (5, .mapR 1 6 none x.a), (6, .grp 3 1 (fun k => ((x.G k).length, inG (x.G k)))), (7, .row 64 2 l.length (stG l)),
      (8, .box 47 [.c (.val (.int .i64 r.1)), .c (.val (.bool r.2))])]⟩

noncomputable def spRanks : FSpec
  | [.agg [.c (.sl nr 2 rt), .c (.sl nl 5 lk)], .agg [.c (.val (.int .i64 a)), .c (.val (.int .i64 b)), .c (.val (.int .i64 ca)), .c (.val (.int .i64 cb))]], [] =>
    some ⟨[nr ≤ 12, nl ≤ 998, rtOK nr rt, lkOK nl lk, RankOK (rts nr rt) (lks nl lk) ⟨a, b, ca, cb⟩],
      .tup [(false, [.own 0]), (false, [.c (.val (.int .i64 (readV (rts nr rt) (lks nl lk) ⟨a, b, ca, cb⟩).e))])],
      [(0, .row 64 2 (ranksV (rts nr rt) (lks nl lk) ⟨a, b, ca, cb⟩).length (stG (ranksV (rts nr rt) (lks nl lk) ⟨a, b, ca, cb⟩)))]⟩
  | _, _ => none

theorem readV_len (R : List (Int × Bool)) (L : List Lk) (c : Chg) : (readV R L c).R.length ≤ R.length ∧ (readV R L c).L.length ≤ L.length + 1 ∧ (readV R L c).dirs.length ≤ 2 := by
  have h := applyV_len R L c
  have hd : (chV R L c).dirs.length ≤ 2 := by
    have : ∀ (l : List (Int × Int)) (s : ChS), (l.foldl (chStep R L (applyV R L c).1 (applyV R L c).2.1) s).dirs.length ≤ s.dirs.length + l.length := by
      intro l
      induction l with
      | nil => exact fun s => Nat.le_refl _
      | cons x l ih =>
        intro s
        have h1 := ih (chStep R L (applyV R L c).1 (applyV R L c).2.1 s x)
        have h2 := chStep_len R L (applyV R L c).1 (applyV R L c).2.1 s x
        simp only [List.foldl_cons, List.length_cons]
        omega
    exact this (hopsOf c) ⟨false, false, []⟩
  unfold readV
  by_cases h1 : ((applyV R L c).2.2 != 0) = true
  · rw [if_pos h1]
    simp
  rw [if_neg h1]
  by_cases h2 : (if (chV R L c).up = true then (chV R L c).dn else false) = true
  · rw [if_pos h2]
    simp
  rw [if_neg h2]
  by_cases h3 : (chV R L c).dn = true
  · rw [if_pos h3]
    exact ⟨h.1, h.2, hd⟩
  · rw [if_neg h3]
    exact ⟨Nat.le_refl _, Nat.le_succ _, hd⟩

set_option maxRecDepth 100000 in
set_option maxHeartbeats 4000000 in
theorem ranks_holds : Holds Try.prog 6 spRanks := by
  refine Holds.of hT Try.func6 rfl 55 rfl fun args bs out h hc => ?_
  unfold spRanks at h
  split at h
  rotate_left
  · cases h
  rename_i nr rt nl lk a b ca cb
  simp only [Option.some.injEq] at h
  subst h
  obtain ⟨hn1, hn2, hr, hl, hok, _⟩ := hc
  refine ⟨by simp, by simp [Res.live], fun F hF => ?_⟩
  have hlr := rts_length nr rt
  have hll := lks_length nl lk
  generalize hR : rts nr rt = R at hlr hok ⊢
  generalize hL : lks nl lk = L at hll hok ⊢
  generalize hc : (⟨a, b, ca, cb⟩ : Chg) = c at hok
  obtain ⟨p, hp⟩ := hok
  refine W.seqR hT hHD7 rfl (by (repeat' (first | assumption | exact rfl | exact trivial | omega | (dsimp only; omega) | refine ⟨?_, ?_⟩ | intro _ | (simp_all; done) | fail))) ?_
  refine W.cut (ρ := [(0, some 0), (1, some 16)]) (nx' := 2) (t := rkA R L c) ?_ ?_
  · subst hc
    refine ⟨by rw [hF]; rfl, ?_, ?_, rfl, rfl, rfl⟩ <;> (repeat' (first | exact rfl | exact trivial | exact cellM.refl _ | exact fun _ _ _ _ => cellM.refl _ | exact fun _ => ⟨rfl, fun _ _ _ _ => cellM.refl _⟩ | refine ⟨?_, ?_⟩ | fail))
    · exact hlr.symm
    · rw [hlr, ← hR]; exact rts_cell hr
    · exact hll.symm
    · rw [hll, ← hL]; exact lks_cell hl
  have eR := rts_rtL R
  have eL := lks_lkG' L
  have okR := rtL_ok R R.length
  have okL := lkG_ok L L.length
  refine W.seqR hT hHD7 rfl (by exact ⟨by omega, by omega, okR, okL, trivial⟩) ?_
  refine W.cut (ρ := [(0, some 0), (1, some 130), (2, some 34)]) (nx' := 3) (t := rkB R L (readV R L c)) ?_ ?_
  · refine ⟨by rw [hF]; rfl, ?_, ?_, rfl, rfl, rfl⟩ <;> (repeat' (first | exact rfl | exact trivial | exact cellM.refl _ | exact fun _ _ _ _ => cellM.refl _ | exact fun _ => ⟨rfl, fun _ _ _ _ => cellM.refl _⟩ | refine ⟨?_, ?_⟩ | fail))
    · show Value.int .i64 (readV (rts R.length (rtL R)) (lks L.length (lkG L)) c).kind = Value.int .i64 (readV R L c).kind
      rw [eR, eL]
    · show Value.int .i64 (readV (rts R.length (rtL R)) (lks L.length (lkG L)) c).e = Value.int .i64 (readV R L c).e
      rw [eR, eL]
    all_goals rw [eR, eL]
    all_goals exact fun _ _ _ _ => cellM.refl _
  have hlen := readV_len R L c
  have hrv : ranksV R L c = ranksV R L c := rfl
  conv at hrv => rhs; unfold ranksV
  have hah : aheadC R L c = aheadC R L c := rfl
  conv at hah => rhs; unfold aheadC
  generalize aheadC R L c = A at hp hrv hah
  generalize ranksV R L c = out at hrv ⊢
  generalize readV R L c = rd at hlen hrv hah ⊢
  have hf := hgtC_is hp
  generalize hgtC A = f at hf hrv
  obtain ⟨hl1, hl2, hl3⟩ := hlen
  refine W.seq (W.seqR hT hHD7 rfl (by (repeat' (first | assumption | exact rfl | exact trivial | omega | (dsimp only; omega) | refine ⟨?_, ?_⟩ | intro _ | (simp_all; done) | fail))) (W.cond rfl (fun h1 => ?_) (fun h1 => W.skip ?_)))
  · have h1 : (rd.e != 0) = true := h1
    rw [if_pos h1] at hrv
    rw [hrv]
    refine W.seqR hT hHD7 rfl (by (repeat' (first | assumption | exact rfl | exact trivial | omega | (dsimp only; omega) | refine ⟨?_, ?_⟩ | intro _ | (simp_all; done) | fail))) ?_
    refine W.ret ⟨_, [(0, none)], rfl, rfl, ?_, ?_, rfl, rfl, rfl⟩ <;> (repeat' (first | exact rfl | exact trivial | exact cellM.refl _ | exact fun _ _ _ _ => cellM.refl _ | exact fun _ => ⟨rfl, fun _ _ _ _ => cellM.refl _⟩ | refine ⟨?_, ?_⟩ | fail))
  have h1 : (rd.e != 0) = false := h1
  rw [if_neg (ne_true_of_eq_false h1)] at hrv
  have he0 : rd.e = 0 := by simpa using h1
  refine W.seqR hT hHD7 rfl (by exact ⟨by omega, by omega, by omega, rtL_ok _ _, lkG_ok _ _, stG_ok _ _, trivial⟩) ?_
  have eR' := rts_rtL rd.R
  have eL' := lks_lkG' rd.L
  have eH' := sts_stG rd.dirs
  refine W.cut (ρ := [(0, some 0), (1, some 83), (2, some 67), (3, some 68)]) (nx' := 4) (t := rkC R L rd.kind (bhV rd.R rd.L rd.dirs)) ?_ ?_
  · refine ⟨by rw [hF]; rfl, ?_, ?_, rfl, rfl, rfl⟩ <;> (repeat' (first | exact rfl | exact trivial | exact cellM.refl _ | exact fun _ _ _ _ => cellM.refl _ | exact fun _ => ⟨rfl, fun _ _ _ _ => cellM.refl _⟩ | refine ⟨?_, ?_⟩ | fail))
    · rw [eR', eL', eH']
    · rw [eR', eL', eH']
      exact fun k => ⟨rfl, fun _ _ _ _ => cellM.refl _⟩
  obtain ⟨hb1, hb2⟩ := bhV_len rd.R rd.L rd.dirs
  generalize bhV rd.R rd.L rd.dirs = bh at hb1 hb2 hah ⊢
  refine W.meet (γ := { x : BhS // IsHgt x.G f ∧ Pot x.G p ∧ ∀ k, (x.G k).length ≤ 100000000 }) (fun x => rkC R L rd.kind x.1) 4 ?_ ?_
  · refine W.seqR hT hHD7 rfl (by (repeat' (first | assumption | exact rfl | exact trivial | omega | (dsimp only; omega) | refine ⟨?_, ?_⟩ | intro _ | (simp_all; done) | fail))) (W.cond rfl (fun h2 => ?_) (fun h2 => W.skip ?_))
    · have h2 : (rd.kind == 1) = true := h2
      rw [if_pos h2] at hah
      refine W.byOps (WO.run 1 hT hHD7 rfl rfl trivial ?_)
      refine WO.any rfl rfl rfl (callX_any (sp := spTurned) (R := turnedR) (seed := []) rfl (enters Try.func20 rfl (by kernel_rfl)) turned_holds rfl rfl rfl rfl rfl (fun x => rfl) rfl (fun x => rfl) (fun x => rfl) trivial trivial (fun x => ⟨by omega, fun k => ⟨by have := hb2 k; show (bh.G k).length ≤ 10000; omega, inG_ok _ _⟩, trivial⟩)) ?_
      rintro E ⟨x, hx, rfl⟩
      have hx : TurnOf bh.a (rowsI (fun k => ((bh.G k).length, inG (bh.G k)))) x := hx
      rw [rowsI_inG] at hx
      refine WO.run 1 hT hHD7 rfl rfl trivial (WO.done (Nat.le_refl _) ?_)
      have hmem : ∀ x0 y, y ∈ A [x0] ↔ y ∈ x.G [x0] := fun x0 y => by rw [hah]; exact turnOf_mem hx x0 y
      refine ⟨⟨x, isHgt_congr hmem hf, ⟨hp.1, fun x0 y hy => hp.2 x0 y ((hmem x0 y).2 hy)⟩, hx.len⟩, [(0, some 0), (1, some 1), (2, some 52), (3, some 53)], ?_⟩
      refine ⟨by rw [hF]; rfl, ?_, ?_, rfl, rfl, rfl⟩ <;> (repeat' (first | exact rfl | exact trivial | exact cellM.refl _ | exact fun _ _ _ _ => cellM.refl _ | exact fun _ => ⟨rfl, fun _ _ _ _ => cellM.refl _⟩ | refine ⟨?_, ?_⟩ | fail))
    · have h2 : (rd.kind == 1) = false := h2
      rw [if_neg (ne_true_of_eq_false h2)] at hah
      subst hah
      refine ⟨⟨bh, hf, hp, fun k => by have := hb2 k; omega⟩, [(0, some 0), (1, some 1), (2, some 2), (3, some 3)], ?_⟩
      refine ⟨by rw [hF]; rfl, ?_, ?_, rfl, rfl, rfl⟩ <;> (repeat' (first | exact rfl | exact trivial | exact cellM.refl _ | exact fun _ _ _ _ => cellM.refl _ | exact fun _ => ⟨rfl, fun _ _ _ _ => cellM.refl _⟩ | refine ⟨?_, ?_⟩ | fail))
  rintro ⟨x, hxf, hxp, hxl⟩
  dsimp only
  refine W.seqR hT hHD7 rfl (by (repeat' (first | assumption | exact rfl | exact trivial | omega | (dsimp only; omega) | refine ⟨?_, ?_⟩ | intro _ | (simp_all; done) | fail))) ?_
  refine W.seqR hT hHD7 rfl (by (repeat' (first | assumption | exact rfl | exact trivial | omega | (dsimp only; omega) | refine ⟨?_, ?_⟩ | intro _ | (simp_all; done) | fail))) ?_
  refine W.seqR hT hHD7 rfl (by (repeat' (first | assumption | exact rfl | exact trivial | omega | (dsimp only; omega) | refine ⟨?_, ?_⟩ | intro _ | (simp_all; done) | fail))) ?_
  refine W.seqR hT hHD7 rfl (by (repeat' (first | assumption | exact rfl | exact trivial | omega | (dsimp only; omega) | refine ⟨?_, ?_⟩ | intro _ | (simp_all; done) | fail))) ?_
  refine W.seq (W.seqR hT hHD7 rfl (by (repeat' (first | assumption | exact rfl | exact trivial | omega | (dsimp only; omega) | refine ⟨?_, ?_⟩ | intro _ | (simp_all; done) | fail))) ?_)
  obtain ⟨N, hN⟩ : ∃ N, ∀ x, p x < N := ⟨1000001, fun x => by have := hp.1 x; omega⟩
  have hGN : GOK Try.prog [(21, spRank N)] := GOK.cons (enters Try.func21 rfl (by kernel_rfl)) (rank_holds N) hG0
  have hfl : ∀ y, 0 ≤ f y ∧ f y ≤ 1000000 := fun y => by
    have h1 := hgt_le hp hf (p y) y (Nat.le_refl _)
    have h2 := hp.1 y
    omega
  refine W.block (W.loop (γ := { q : Nat × AM // q.1 ≤ R.length ∧ KnOK f q.2 }) (fun q => rkD R L x q.1.2 (((ids R).take q.1.1).map fun x => (x, f x)) q.1.1) 8 (fun q => R.length - q.1.1) ⟨(0, a0), Nat.zero_le _, knOK_0 f⟩ [(0, some 0), (1, some 20), (2, some 1), (3, some 52), (4, some 4), (5, some 2), (6, some 3), (7, none)] ?_ ?_)
  · refine ⟨by rw [hF]; rfl, ?_, ?_, rfl, rfl, rfl⟩ <;> (repeat' (first | exact rfl | exact trivial | exact cellM.refl _ | exact fun _ _ _ _ => cellM.refl _ | exact fun _ => ⟨rfl, fun _ _ _ _ => cellM.refl _⟩ | refine ⟨?_, ?_⟩ | fail))
  rintro ⟨⟨k, kn⟩, hk, hkn⟩
  dsimp only at hk hkn ⊢
  refine W.seqR hT hGN rfl (by (repeat' (first | assumption | exact rfl | exact trivial | omega | (dsimp only; omega) | refine ⟨?_, ?_⟩ | intro _ | (simp_all; done) | fail))) (W.seq (W.cond rfl (fun h3 => W.skip ?_) (fun h3 => W.exit ?_)))
  rotate_left
  · have h3 : k = R.length := by have h3 : ¬ (k : Int) < (R.length : Int) := of_decide_eq_false h3; omega
    have hall : (ids R).take k = ids R := List.take_of_length_le (by rw [h3]; simp [ids])
    rw [hall, ← hrv, he0]
    refine W.seqR hT hGN rfl (by (repeat' (first | assumption | exact rfl | exact trivial | omega | (dsimp only; omega) | refine ⟨?_, ?_⟩ | intro _ | (simp_all; done) | fail))) ?_
    refine W.ret ⟨_, [(0, some 7)], rfl, rfl, ?_, ?_, rfl, rfl, rfl⟩ <;> (repeat' (first | exact rfl | exact trivial | exact cellM.refl _ | exact fun _ _ _ _ => cellM.refl _ | exact fun _ => ⟨rfl, fun _ _ _ _ => cellM.refl _⟩ | refine ⟨?_, ?_⟩ | fail))
  have h3 : k < R.length := by have h3 : (k : Int) < (R.length : Int) := of_decide_eq_true h3; omega
  have hst : ((ids R).take (k + 1)).map (fun x => (x, f x)) = ((ids R).take k).map (fun x => (x, f x)) ++ [((rtAt R k).1, f (rtAt R k).1)] := by
    rw [List.take_succ_eq_append_getElem (by simpa [ids] using h3), List.map_append, ids_get h3]
    rfl
  have hll2 : (((ids R).take k).map (fun x => (x, f x))).length ≤ 12 := by
    rw [List.length_map, List.length_take]
    omega
  generalize ((ids R).take k).map (fun x => (x, f x)) = l at hst hll2 ⊢
  refine W.seq (W.block ?_)
  refine W.seqR hT hGN rfl (by (repeat' (first | assumption | exact rfl | exact trivial | omega | (dsimp only; omega) | refine ⟨?_, ?_⟩ | intro _ | (simp_all; done) | fail))) ?_
  refine W.cut (ρ := [(0, some 0), (1, some 1), (2, some 2), (3, some 3), (4, some 4), (5, some 5), (6, some 6), (7, some 7), (8, some 56)]) (nx' := 9) (t := rkE R L x kn l k (rtAt R k)) ?_ ?_
  · refine ⟨by rw [hF]; rfl, ?_, ?_, rfl, rfl, rfl⟩ <;> (repeat' (first | exact rfl | exact trivial | exact cellM.refl _ | exact fun _ _ _ _ => cellM.refl _ | exact fun _ => ⟨rfl, fun _ _ _ _ => cellM.refl _⟩ | refine ⟨?_, ?_⟩ | fail))
  generalize rtAt R k = r at hst ⊢
  obtain ⟨kn', hrk, hkn'⟩ := rkN_ok hxp hxf N kn r.1 (hN r.1) hkn
  have hrv2 : rkV (rowsI fun k => ((x.G k).length, inG (x.G k))) N kn r.1 = (f r.1, kn') := by
    rw [rowsI_inG, rkV, hrk]
    rfl
  refine W.regionDraw hT hGN (by repeat (first | exact runIt_nil | (apply runIt_cons; exact rfl))) (by kernel_rfl) hmix ?_ ?_
  · refine ⟨?_, fun k => ⟨?_, inG_ok _ _⟩, by omega, ?_, trivial⟩
    · rw [rowsI_inG, hrk]
      rfl
    · have := hxl k
      show (x.G k).length ≤ 1000000000
      omega
    · show (l.length + 1) * 16 ≤ 140737488355328
      omega
  refine W.region hT hGN rfl (by (repeat' (first | assumption | exact rfl | exact trivial | omega | (dsimp only; omega) | refine ⟨?_, ?_⟩ | intro _ | (simp_all; done) | fail))) ?_
  refine ⟨⟨(k + 1, kn'), by omega, hkn'⟩, [(0, some 0), (1, some 1), (2, some 2), (3, some 3), (4, some 4), (5, some 5), (6, some 6), (7, some 153)], ?_, ?_⟩
  · dsimp only
    rw [hst]
    refine ⟨by rw [hF]; rfl, ?_, ?_, rfl, rfl, rfl⟩ <;> (repeat' (first | exact rfl | exact trivial | exact cellM.refl _ | exact fun _ _ _ _ => cellM.refl _ | exact fun _ => ⟨rfl, fun _ _ _ _ => cellM.refl _⟩ | refine ⟨?_, ?_⟩ | fail))
    · show Value.int .i64 (IntKind.i64.wrap ((k : Int) + 1)) = Value.int .i64 ((k + 1 : Nat) : Int)
      rw [wi (by omega)]
      rfl
    · rw [hrv2]
    · simp
    · refine st_app (x := (r.1, f r.1)) ?_
      rw [hrv2]
  · dsimp only
    omega
end Go.Proofs.Ytahhejlpmacloaa

/- The walk of the drawing of a change. -/
namespace Go.Proofs.Ytahhejlpmacloaa
open Go Go.Eng

def HD8 : List (Nat × FSpec) := [(12, spRange), (15, spNext), (14, spOne)]
set_option maxRecDepth 100000 in
theorem hHD8 : GOK Try.prog HD8 := GOK.cons (enters Try.func12 rfl (by kernel_rfl)) range_holds (GOK.cons (enters Try.func15 rfl (by kernel_rfl)) next_holds (GOK.cons (enters Try.func14 rfl (by kernel_rfl)) one_holds hG0))

def z35 : Res := .box 35 [.c (.val (.int .i64 0)), .c (.val (.int .i64 0)), .c (.val (.int .i64 0)), .c (.val (.int .i64 0))]
def cgA (n : Nat) (get : Get) (at_ : Int) (R : List (Int × Bool)) (L : List Lk) : St := ⟨[(0, .one (.ptr 0 0)), (2, iv 0), (4, .one (.ptr 1 0)), (6, .one (.ptr 2 0))], [(0, tapeB n get at_), (1, topoB R L), (2, z35)]⟩
def cgB (n : Nat) (get : Get) (at_ : Int) (R : List (Int × Bool)) (L : List Lk) (c : Chg) : St := ⟨[(0, .one (.ptr 0 0)), (2, iv 0), (4, .one (.ptr 1 0)), (6, .one (.ptr 2 0)), (8, .one (.ptr 3 0))], [(0, tapeB n get at_), (1, topoB R L), (2, z35), (3, chgB c)]⟩
def cgC (n : Nat) (get : Get) (at_ : Int) (c : Chg) (l : Lk) (x : Int) : St := ⟨[(0, .one (.ptr 0 0)), (2, iv 0), (6, .one (.ptr 1 0)), (8, .one (.ptr 2 0)), (9, .one (.ptr 3 0)), (54, iv x)], [(0, tapeB n get at_), (1, z35), (2, chgB c), (3, lkB l)]⟩
def cgD (n : Nat) (get : Get) (at_ : Int) (c : Chg) : St := ⟨[(0, .one (.ptr 0 0)), (2, iv 0), (6, .one (.ptr 1 0)), (8, .one (.ptr 2 0))], [(0, tapeB n get at_), (1, z35), (2, chgB c)]⟩

def chgY (n : Nat) (get : Get) (a6 : Int) (l : Lk) (x : Int) : Int × Chg :=
  if (x == 0) = true then (a6, ⟨l.a, l.b, 0, 0⟩)
  else if (x == 1) = true then (rawA n a6, ⟨l.a, l.b, IntKind.i64.wrap (l.ca + rangeV n get a6 1 4), l.cb⟩)
  else if (x == 2) = true then (rawA n (rawA n a6), ⟨l.a, l.b, IntKind.i64.wrap (l.ca + rangeV n get a6 0 4), IntKind.i64.wrap (l.cb + rangeV n get (rawA n a6) 0 4)⟩)
  else if (x == 3) = true then (rawA n (rawA n a6), ⟨l.a, l.b, rangeV n get a6 1 l.ca, rangeV n get (rawA n a6) 1 l.cb⟩)
  else if (x == 4) = true then (rawA n (rawA n a6), ⟨l.b, l.a, IntKind.i64.wrap (l.cb + cut (rawV n get a6) 3), IntKind.i64.wrap (l.ca + cut (rawV n get (rawA n a6)) 3)⟩)
  else (a6, ⟨l.a, l.b, l.ca, 1⟩)
/-- What the drawing comes to, from the first plan c on. -/
def chgX (n : Nat) (get : Get) (a1 : Int) (L : List Lk) (c : Chg) : Int × Chg :=
  if (if decide ((L.length : Int) > 0) = true then decide (cut (rawV n get a1) 4 > 0) else false) = true then
    chgY n get (rawA n (rawA n (if decide ((L.length : Int) > 0) = true then rawA n a1 else a1))) (lkAt L (cut (rawV n get (if decide ((L.length : Int) > 0) = true then rawA n a1 else a1)) L.length).toNat) (cut (rawV n get (rawA n (if decide ((L.length : Int) > 0) = true then rawA n a1 else a1))) 6)
  else (if decide ((L.length : Int) > 0) = true then rawA n a1 else a1, c)
def chgV (n : Nat) (get : Get) (at_ : Int) (R : List (Int × Bool)) (L : List Lk) : Int × Chg :=
  chgX n get (rawA n (rawA n (rawA n (rawA n at_)))) L ⟨IntKind.i64.wrap (1 + cut (rawV n get at_) R.length), IntKind.i64.wrap (1 + cut (rawV n get (rawA n at_)) R.length), rangeV n get (rawA n (rawA n at_)) 1 6, rangeV n get (rawA n (rawA n (rawA n at_))) 1 6⟩
def chgF : List AV → List Res → Int × Chg
  | [.one (.ptr 0 0), .agg [.c (.sl nr 2 rt), .c (.sl nl 5 lk)], .one (.c (.val (.int .i64 0)))], [.box 44 [.c (.sl n 1 get), .c (.val (.int .i64 at_))]] => chgV n get at_ (rts nr rt) (lks nl lk)
  | _, _ => (0, ⟨0, 0, 0, 0⟩)

def spChange (x : Int × Chg) : FSpec
  | [.one (.ptr 0 0), .agg [.c (.sl nr 2 rt), .c (.sl nl 5 lk)], .one (.c (.val (.int .i64 0)))], [.box 44 [.c (.sl n 1 get), .c (.val (.int .i64 at_))]] =>
    some ⟨[tapeC n get at_, nr ≤ 1000, nl ≤ 1000, rtOK nr rt, lkOK nl lk], .agg [.c (.val (.int .i64 x.2.a)), .c (.val (.int .i64 x.2.b)), .c (.val (.int .i64 x.2.ca)), .c (.val (.int .i64 x.2.cb))],
      [(0, .box 44 [.c (.sl n 1 get), .c (.val (.int .i64 x.1))])]⟩
  | _, _ => none

set_option maxRecDepth 100000 in
set_option maxHeartbeats 4000000 in
theorem changeX_holds : HoldsX Try.prog 7 spChange (fun x args bs => x = chgF args bs) := by
  refine HoldsX.of hT Try.func7 rfl 140 rfl fun args bs out h hc => ?_
  have h0 := h (0, ⟨0, 0, 0, 0⟩)
  unfold spChange at h0
  split at h0
  rotate_left
  · cases h0
  rename_i nr rt nl lk n get at_
  obtain rfl : _ = out := funext fun x => Option.some.inj (h x)
  clear h h0
  have hc := hc (0, ⟨0, 0, 0, 0⟩)
  obtain ⟨⟨hI, h0, hn6⟩, hn1, hn2, hr, hl, _⟩ := hc
  refine ⟨by simp, by simp [Res.live], fun F hF => ?_⟩
  show W Try.prog F 140 _ _ _ (fun e nx s => ∃ x, x = chgV n get at_ (rts nr rt) (lks nl lk) ∧ _)
  have hlr := rts_length nr rt
  have hll := lks_length nl lk
  generalize hR : rts nr rt = R at hlr ⊢
  generalize hL : lks nl lk = L at hll ⊢
  refine W.seqR hT hHD8 rfl (by (repeat' (first | assumption | exact rfl | exact trivial | omega | (dsimp only; omega) | refine ⟨?_, ?_⟩ | intro _ | (simp_all; done) | fail))) ?_
  refine W.cut (ρ := [(0, some 0), (1, some 1), (2, some 17)]) (nx' := 3) (t := cgA n get at_ R L) ?_ ?_
  · refine ⟨by rw [hF]; rfl, ?_, ?_, rfl, rfl, rfl⟩ <;> (repeat' (first | exact rfl | exact trivial | exact cellM.refl _ | exact fun _ _ _ _ => cellM.refl _ | exact fun _ => ⟨rfl, fun _ _ _ _ => cellM.refl _⟩ | refine ⟨?_, ?_⟩ | fail))
    · exact hlr.symm
    · rw [hlr, ← hR]; exact rts_cell hr
    · exact hll.symm
    · rw [hll, ← hL]; exact lks_cell hl
  have okT : ∀ a, 0 ≤ a → tapeC n get a := fun a h => ⟨hI, h, hn6⟩
  have nn : ∀ {a : Int}, 0 ≤ a → 0 ≤ rawA n a := rawA_nonneg
  refine W.seqR hT hHD8 rfl (by (repeat' (first | assumption | exact rfl | exact trivial | omega | (dsimp only; omega) | refine ⟨?_, ?_⟩ | intro _ | (simp_all; done) | fail))) ?_
  refine W.seqR hT hHD8 rfl ⟨okT _ h0, rfl, okT _ (nn h0), rfl, okT _ (nn (nn h0)), okT _ (nn (nn (nn h0))), trivial⟩ ?_
  obtain ⟨a1, ha1⟩ : ∃ a, a = rawA n (rawA n (rawA n (rawA n at_))) := ⟨_, rfl⟩
  obtain ⟨c, hc⟩ : ∃ c : Chg, c = ⟨IntKind.i64.wrap (1 + cut (rawV n get at_) R.length), IntKind.i64.wrap (1 + cut (rawV n get (rawA n at_)) R.length), rangeV n get (rawA n (rawA n at_)) 1 6, rangeV n get (rawA n (rawA n (rawA n at_))) 1 6⟩ := ⟨_, rfl⟩
  have h1 : 0 ≤ a1 := by rw [ha1]; exact nn (nn (nn (nn h0)))
  have hch : chgV n get at_ R L = chgX n get a1 L c := by rw [ha1, hc]; rfl
  rw [hch]
  refine W.cut (ρ := [(0, some 0), (1, some 1), (2, some 2), (3, some 275)]) (nx' := 4) (t := cgB n get a1 R L c) ?_ ?_
  · subst ha1 hc
    refine ⟨by rw [hF]; rfl, ?_, ?_, rfl, rfl, rfl⟩ <;> (repeat' (first | exact rfl | exact trivial | exact cellM.refl _ | exact fun _ _ _ _ => cellM.refl _ | exact fun _ => ⟨rfl, fun _ _ _ _ => cellM.refl _⟩ | refine ⟨?_, ?_⟩ | fail))
  clear ha1 hc
  refine W.meet (γ := { q : Int × Chg // 0 ≤ q.1 ∧ q = chgX n get a1 L c }) (fun q => cgD n get q.1.1 q.1.2) 3 ?_ ?_
  · have hif : ∀ t : Bool, 0 ≤ (if t = true then rawA n a1 else a1) := fun t => by cases t <;> simp [h1, nn h1]
    refine W.seqR hT hHD8 rfl ⟨rfl, fun _ => trivial, fun h => ⟨h, okT _ h1, trivial⟩, rfl, rfl, fun h => ⟨h, rfl, trivial⟩, fun h => h, fun _ => rfl, trivial⟩ (W.cond rfl (fun h2 => ?_) (fun h2 => W.skip ?_))
    rotate_left
    · have h2 : (if decide ((L.length : Int) > 0) = true then decide (cut (rawV n get a1) 4 > 0) else false) = false := h2
      refine ⟨⟨(if decide ((L.length : Int) > 0) = true then rawA n a1 else a1, c), hif _, (if_neg (ne_true_of_eq_false h2)).symm⟩, [(0, some 0), (1, some 2), (2, some 3)], ?_⟩
      refine ⟨by rw [hF]; rfl, ?_, ?_, rfl, rfl, rfl⟩ <;> (repeat' (first | exact rfl | exact trivial | exact cellM.refl _ | exact fun _ _ _ _ => cellM.refl _ | exact fun _ => ⟨rfl, fun _ _ _ _ => cellM.refl _⟩ | refine ⟨?_, ?_⟩ | fail))
    have h2 : (if decide ((L.length : Int) > 0) = true then decide (cut (rawV n get a1) 4 > 0) else false) = true := h2
    have hcx : chgX n get a1 L c = _ := if_pos h2
    have hL0 : 0 < L.length := by
      by_cases h : (L.length : Int) > 0
      · omega
      · have h2 : (if decide ((L.length : Int) > 0) = true then decide (cut (rawV n get a1) 4 > 0) else false) = true := h2
        rw [if_neg (by simpa using h)] at h2
        cases h2
    refine W.cut (ρ := [(0, some 0), (1, some 1), (2, some 2), (3, some 3)]) (nx' := 4) (t := cgB n get (if decide ((L.length : Int) > 0) = true then rawA n a1 else a1) R L c) ?_ ?_
    · refine ⟨by rw [hF]; rfl, ?_, ?_, rfl, rfl, rfl⟩ <;> (repeat' (first | exact rfl | exact trivial | exact cellM.refl _ | exact fun _ _ _ _ => cellM.refl _ | exact fun _ => ⟨rfl, fun _ _ _ _ => cellM.refl _⟩ | refine ⟨?_, ?_⟩ | fail))
    have h4 := hif (decide ((L.length : Int) > 0))
    generalize (if decide ((L.length : Int) > 0) = true then rawA n a1 else a1) = a4 at h4 hcx ⊢
    obtain ⟨q, hq, hql⟩ : ∃ q : Nat, cut (rawV n get a4) L.length = q ∧ q < L.length := by
      have := cut_range (rawV n get a4) (n := L.length) (by omega) (by omega)
      exact ⟨(cut (rawV n get a4) L.length).toNat, by omega, by omega⟩
    refine W.seq (W.regionDrawF 9 hT hHD8 rfl (fun _ => rfl) (by repeat (first | exact runItF_nil | (apply runItF_free rfl) | (apply runItF_cons rfl; exact rfl))) (by repeat (first | exact runIt_nil | (apply runIt_cons; exact rfl))) (by kernel_rfl) hmix (by exact ⟨okT _ h4, by omega, by omega, trivial⟩) ?_)
    refine W.seqR hT hHD8 rfl (by (repeat' (first | assumption | exact rfl | exact trivial | omega | (dsimp only; omega) | refine ⟨?_, ?_⟩ | intro _ | (simp_all; done) | fail))) ?_
    refine W.seqR hT hHD8 rfl ⟨okT _ (nn h4), trivial⟩ ?_
    obtain ⟨a6, ha6⟩ : ∃ a, a = rawA n (rawA n a4) := ⟨_, rfl⟩
    have h6 : 0 ≤ a6 := by rw [ha6]; exact nn (nn h4)
    obtain ⟨l, hl0⟩ : ∃ l, l = lkAt L (cut (rawV n get a4) L.length).toNat := ⟨_, rfl⟩
    refine W.cut (ρ := [(0, some 0), (1, some 2), (2, some 3), (3, some 148)]) (nx' := 4) (t := cgC n get a6 ⟨l.a, l.b, l.ca, l.cb⟩ l (cut (rawV n get (rawA n a4)) 6)) ?_ ?_
    · subst ha6 hl0
      refine ⟨by rw [hF]; rfl, ?_, ?_, rfl, rfl, rfl⟩ <;> (repeat' (first | exact rfl | exact trivial | exact cellM.refl _ | exact fun _ _ _ _ => cellM.refl _ | exact fun _ => ⟨rfl, fun _ _ _ _ => cellM.refl _⟩ | refine ⟨?_, ?_⟩ | fail))
    rw [← ha6, ← hl0] at hcx
    generalize cut (rawV n get (rawA n a4)) 6 = x at hcx ⊢
    unfold chgY at hcx
    refine W.block ?_
    refine W.seqR hT hHD8 rfl ⟨rfl, trivial⟩ (W.cond rfl (fun h7 => ?_) (fun h7 => ?_))
    · rw [if_pos (show (x == 0) = true from h7)] at hcx
      refine W.region hT hHD8 rfl (by (repeat' (first | assumption | exact rfl | exact trivial | omega | (dsimp only; omega) | refine ⟨?_, ?_⟩ | intro _ | (simp_all; done) | fail))) ?_
      refine ⟨⟨(a6, ⟨l.a, l.b, 0, 0⟩), h6, hcx.symm⟩, [(0, some 0), (1, some 1), (2, some 2)], ?_⟩
      refine ⟨by rw [hF]; rfl, ?_, ?_, rfl, rfl, rfl⟩ <;> (repeat' (first | exact rfl | exact trivial | exact cellM.refl _ | exact fun _ _ _ _ => cellM.refl _ | exact fun _ => ⟨rfl, fun _ _ _ _ => cellM.refl _⟩ | refine ⟨?_, ?_⟩ | fail))
    rw [if_neg (ne_true_of_eq_false (show (x == 0) = false from h7))] at hcx
    refine W.seqR hT hHD8 rfl ⟨rfl, trivial⟩ (W.cond rfl (fun h8 => ?_) (fun h8 => ?_))
    · rw [if_pos (show (x == 1) = true from h8)] at hcx
      refine W.regionDraw hT hHD8 (by repeat (first | exact runIt_nil | (apply runIt_cons; exact rfl))) (by kernel_rfl) hmix (by exact ⟨okT _ h6, rfl, trivial⟩) ?_
      refine ⟨⟨(rawA n a6, ⟨l.a, l.b, IntKind.i64.wrap (l.ca + rangeV n get a6 1 4), l.cb⟩), nn h6, hcx.symm⟩, [(0, some 0), (1, some 1), (2, some 2)], ?_⟩
      refine ⟨by rw [hF]; rfl, ?_, ?_, rfl, rfl, rfl⟩ <;> (repeat' (first | exact rfl | exact trivial | exact cellM.refl _ | exact fun _ _ _ _ => cellM.refl _ | exact fun _ => ⟨rfl, fun _ _ _ _ => cellM.refl _⟩ | refine ⟨?_, ?_⟩ | fail))
    rw [if_neg (ne_true_of_eq_false (show (x == 1) = false from h8))] at hcx
    refine W.seqR hT hHD8 rfl ⟨rfl, trivial⟩ (W.cond rfl (fun h9 => ?_) (fun h9 => ?_))
    · rw [if_pos (show (x == 2) = true from h9)] at hcx
      refine W.regionDraw hT hHD8 (by repeat (first | exact runIt_nil | (apply runIt_cons; exact rfl))) (by kernel_rfl) hmix (by exact ⟨okT _ h6, rfl, okT _ (nn h6), rfl, trivial⟩) ?_
      refine ⟨⟨(rawA n (rawA n a6), ⟨l.a, l.b, IntKind.i64.wrap (l.ca + rangeV n get a6 0 4), IntKind.i64.wrap (l.cb + rangeV n get (rawA n a6) 0 4)⟩), nn (nn h6), hcx.symm⟩, [(0, some 0), (1, some 1), (2, some 2)], ?_⟩
      refine ⟨by rw [hF]; rfl, ?_, ?_, rfl, rfl, rfl⟩ <;> (repeat' (first | exact rfl | exact trivial | exact cellM.refl _ | exact fun _ _ _ _ => cellM.refl _ | exact fun _ => ⟨rfl, fun _ _ _ _ => cellM.refl _⟩ | refine ⟨?_, ?_⟩ | fail))
    rw [if_neg (ne_true_of_eq_false (show (x == 2) = false from h9))] at hcx
    refine W.seqR hT hHD8 rfl ⟨rfl, trivial⟩ (W.cond rfl (fun h10 => ?_) (fun h10 => ?_))
    · rw [if_pos (show (x == 3) = true from h10)] at hcx
      refine W.regionDraw hT hHD8 (by repeat (first | exact runIt_nil | (apply runIt_cons; exact rfl))) (by kernel_rfl) hmix (by exact ⟨okT _ h6, okT _ (nn h6), trivial⟩) ?_
      refine ⟨⟨(rawA n (rawA n a6), ⟨l.a, l.b, rangeV n get a6 1 l.ca, rangeV n get (rawA n a6) 1 l.cb⟩), nn (nn h6), hcx.symm⟩, [(0, some 0), (1, some 1), (2, some 2)], ?_⟩
      refine ⟨by rw [hF]; rfl, ?_, ?_, rfl, rfl, rfl⟩ <;> (repeat' (first | exact rfl | exact trivial | exact cellM.refl _ | exact fun _ _ _ _ => cellM.refl _ | exact fun _ => ⟨rfl, fun _ _ _ _ => cellM.refl _⟩ | refine ⟨?_, ?_⟩ | fail))
    rw [if_neg (ne_true_of_eq_false (show (x == 3) = false from h10))] at hcx
    refine W.seqR hT hHD8 rfl ⟨rfl, trivial⟩ (W.cond rfl (fun h11 => ?_) (fun h11 => ?_))
    · rw [if_pos (show (x == 4) = true from h11)] at hcx
      refine W.regionDraw hT hHD8 (by repeat (first | exact runIt_nil | (apply runIt_cons; exact rfl))) (by kernel_rfl) hmix (by exact ⟨okT _ h6, rfl, okT _ (nn h6), rfl, trivial⟩) ?_
      refine ⟨⟨(rawA n (rawA n a6), ⟨l.b, l.a, IntKind.i64.wrap (l.cb + cut (rawV n get a6) 3), IntKind.i64.wrap (l.ca + cut (rawV n get (rawA n a6)) 3)⟩), nn (nn h6), hcx.symm⟩, [(0, some 0), (1, some 1), (2, some 2)], ?_⟩
      refine ⟨by rw [hF]; rfl, ?_, ?_, rfl, rfl, rfl⟩ <;> (repeat' (first | exact rfl | exact trivial | exact cellM.refl _ | exact fun _ _ _ _ => cellM.refl _ | exact fun _ => ⟨rfl, fun _ _ _ _ => cellM.refl _⟩ | refine ⟨?_, ?_⟩ | fail))
    · rw [if_neg (ne_true_of_eq_false (show (x == 4) = false from h11))] at hcx
      refine W.region hT hHD8 rfl (by (repeat' (first | assumption | exact rfl | exact trivial | omega | (dsimp only; omega) | refine ⟨?_, ?_⟩ | intro _ | (simp_all; done) | fail))) ?_
      refine ⟨⟨(a6, ⟨l.a, l.b, l.ca, 1⟩), h6, hcx.symm⟩, [(0, some 0), (1, some 1), (2, some 2)], ?_⟩
      refine ⟨by rw [hF]; rfl, ?_, ?_, rfl, rfl, rfl⟩ <;> (repeat' (first | exact rfl | exact trivial | exact cellM.refl _ | exact fun _ _ _ _ => cellM.refl _ | exact fun _ => ⟨rfl, fun _ _ _ _ => cellM.refl _⟩ | refine ⟨?_, ?_⟩ | fail))
  rintro ⟨⟨a2, c2⟩, h2, hq2⟩
  dsimp only at h2 ⊢
  refine W.seq (W.seqR hT hHD8 rfl ?_ (W.cond rfl (fun h3 => ?_) (fun h3 => W.skip ?_)))
  · exact ⟨rfl, fun _ => trivial, fun _ => trivial, fun h => ⟨h, h, okT _ h2, trivial⟩, rfl, rfl, fun h => h, fun _ => rfl, trivial⟩
  · have h3 : (if decide ((0 : Int) > 0) = true then oneV n get a2 0 else false) = true := h3
    simp at h3
  refine W.seqR hT hHD8 rfl (by (repeat' (first | assumption | exact rfl | exact trivial | omega | (dsimp only; omega) | refine ⟨?_, ?_⟩ | intro _ | (simp_all; done) | fail))) ?_
  refine W.ret ⟨(a2, c2), hq2, _, [(0, some 0)], rfl, rfl, ?_, ?_, rfl, rfl, rfl⟩ <;> (repeat' (first | exact rfl | exact trivial | exact cellM.refl _ | exact fun _ _ _ _ => cellM.refl _ | exact fun _ => ⟨rfl, fun _ _ _ _ => cellM.refl _⟩ | refine ⟨?_, ?_⟩ | fail))

/-- Where what is let by is one thing alone, the contract is a plain one. -/
theorem HoldsX.fix {P : Program} {g : Nat} {X : Type} {sp : X → FSpec} {R : X → List AV → List Res → Prop} (f : List AV → List Res → X) (hR : ∀ x args bs, R x args bs → x = f args bs)
    (hall : ∀ args bs out, sp (f args bs) args bs = some out → ∀ x, ∃ o, sp x args bs = some o ∧ (All out.cond → All o.cond)) (h : HoldsX P g sp R) : Holds P g (fun args bs => sp (f args bs) args bs) := by
  intro args bs out hsp hc w S μ vs hw hr hμ
  have hsp : sp (f args bs) args bs = some out := hsp
  have hx := hall args bs out hsp
  have := h args bs (fun x => Classical.choose (hx x)) (fun x => (Classical.choose_spec (hx x)).1) (fun x => (Classical.choose_spec (hx x)).2 hc) w S μ vs hw hr hμ
  refine Calls.mono this ?_
  rintro e w' ⟨x, u, S', μ', hx', h1, h2, h3, h4, h5⟩
  obtain rfl := hR x args bs hx'
  have e1 : Classical.choose (hx (f args bs)) = out := by
    have := (Classical.choose_spec (hx (f args bs))).1
    exact (Option.some.inj (hsp.symm.trans this)).symm
  rw [e1] at h3 h4
  exact ⟨u, S', μ', h1, h2, h3, h4, h5⟩
def spChangeF : FSpec := fun args bs => spChange (chgF args bs) args bs
theorem change_holds : Holds Try.prog 7 spChangeF := by
  refine HoldsX.fix chgF (fun x args bs h => h) (fun args bs out h x => ?_) changeX_holds
  unfold spChange at h
  split at h
  · rename_i nr rt nl lk n get at_
    simp only [Option.some.injEq] at h
    subst h
    exact ⟨_, rfl, fun hc => hc⟩
  · cases h
end Go.Proofs.Ytahhejlpmacloaa
