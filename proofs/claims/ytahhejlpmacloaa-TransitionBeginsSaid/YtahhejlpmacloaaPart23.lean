/- Plain laws: the relation behind has no rings. -/
import Derived.Test.YtahhejlpmacloaaPart22
import Derived.Test.YtahhejlpmacloaaPart11
import Derived.Test.YtahhejlpmacloaaPart12
namespace Go.Proofs.Ytahhejlpmacloaa
open Go Go.Eng

theorem Wk.trans {L : List Lk} {x y z c d : Int} (h : Wk L x y c) (h' : Wk L y z d) : Wk L x z (c + d) := by
  induction h' with
  | nil => rw [Int.add_zero]; exact h
  | snoc _ he ih => rw [← Int.add_assoc]; exact ih.snoc he

/-! ### the table of all costs -/
theorem putAll_ok {x : Int} {g : Int → Option Int} : ∀ (l : List (Int × Int)) (m : AM), m.WF → (∀ p ∈ l, g p.1 = some p.2) → (putAll x m l).WF ∧ (∀ p ∈ l, (putAll x m l).at? [x, p.1] = some p.2) ∧ ∀ k, (∀ p ∈ l, k ≠ [x, p.1]) → (putAll x m l).at? k = m.at? k
  | [], m, hm, _ => ⟨hm, fun p hp => (by cases hp), fun _ _ => rfl⟩
  | q :: l, m, hm, hg => by
    obtain ⟨h1, h2, h3⟩ := putAll_ok (x := x) (g := g) l (m.set [x, q.1] q.2) (hm.set _ _) (fun p hp => hg p (List.mem_cons_of_mem _ hp))
    have e : putAll x m (q :: l) = putAll x (m.set [x, q.1] q.2) l := rfl
    rw [e]
    refine ⟨h1, fun p hp => ?_, fun k hk => ?_⟩
    · by_cases hin : ∃ p' ∈ l, p'.1 = p.1
      · obtain ⟨p', hp', e'⟩ := hin
        have := h2 p' hp'
        rw [e'] at this
        rw [this]
        have g1 := hg p' (List.mem_cons_of_mem _ hp')
        have g2 := hg p hp
        rw [e', g2] at g1
        exact g1.symm
      · have hpq : p = q := by
          rcases List.mem_cons.1 hp with h | h
          · exact h
          · exact absurd ⟨p, h, rfl⟩ hin
        subst hpq
        rw [h3 _ (fun p' hp' e' => hin ⟨p', hp', by injection e' with _ e'; injection e' with e'; exact e'.symm⟩), AM.at_set hm, if_pos rfl]
    · rw [h3 k (fun p hp => hk p (List.mem_cons_of_mem _ hp)), AM.at_set hm, if_neg (hk q List.mem_cons_self)]
theorem dsL_mem {a : AM} {R : List (Int × Bool)} {y c : Int} : (y, c) ∈ dsL a R ↔ y ∈ ids R ∧ a.at? [y] = some c := by
  unfold dsL ids
  simp only [List.mem_filterMap, List.mem_map]
  constructor
  · rintro ⟨r, hr, h⟩
    cases ha : a.at? [r.1] with
    | none => rw [ha] at h; cases h
    | some v =>
      rw [ha] at h
      simp only [Option.map_some, Option.some.injEq, Prod.mk.injEq] at h
      obtain ⟨rfl, rfl⟩ := h
      exact ⟨⟨r, hr, rfl⟩, ha⟩
  · rintro ⟨⟨r, hr, rfl⟩, h⟩
    exact ⟨r, hr, by rw [h]; rfl⟩
theorem all_ok {R : List (Int × Bool)} {L : List Lk} (hok : okB R L = true) : (allA R L).WF ∧ ∀ x d c, (allA R L).at? [x, d] = some c ↔ x ∈ ids R ∧ d ∈ ids R ∧ (distA R L x).at? [d] = some c := by
  have hw0 : a0.WF := ⟨List.nodup_nil, List.nodup_nil, fun e he => by cases he⟩
  have key : ∀ (Q : List (Int × Bool)) (m : AM) (pre : List Int), m.WF → (∀ x d c, m.at? [x, d] = some c ↔ x ∈ pre ∧ d ∈ ids R ∧ (distA R L x).at? [d] = some c) →
      (Q.foldl (fun m r => putAll r.1 m (dsV R L r.1)) m).WF ∧ ∀ x d c, (Q.foldl (fun m r => putAll r.1 m (dsV R L r.1)) m).at? [x, d] = some c ↔ x ∈ pre ++ ids Q ∧ d ∈ ids R ∧ (distA R L x).at? [d] = some c := by
    intro Q
    induction Q with
    | nil => exact fun m pre hm h => ⟨hm, fun x d c => by simpa [ids] using h x d c⟩
    | cons r Q ih =>
      intro m pre hm h
      have hds : dsV R L r.1 = dsL (distA R L r.1) R := by rw [dsV, if_pos hok]
      obtain ⟨h1, h2, h3⟩ := putAll_ok (x := r.1) (g := fun d => if d ∈ ids R then (distA R L r.1).at? [d] else none) (dsV R L r.1) m hm (fun p hp => by
        obtain ⟨y, c⟩ := p
        rw [hds] at hp
        obtain ⟨g1, g2⟩ := dsL_mem.1 hp
        show (if y ∈ ids R then _ else none) = some c
        rw [if_pos g1]
        exact g2)
      obtain ⟨g1, g2⟩ := ih (putAll r.1 m (dsV R L r.1)) (pre ++ [r.1]) h1 (fun x d c => by
        by_cases hin : ∃ p ∈ dsV R L r.1, [x, d] = [r.1, p.1]
        · obtain ⟨p, hp, e⟩ := hin
          injection e with e1 e2
          injection e2 with e2
          subst e1 e2
          rw [h2 p hp]
          obtain ⟨y, c'⟩ := p
          rw [hds] at hp
          obtain ⟨k1, k2⟩ := dsL_mem.1 hp
          dsimp only at k1 k2 ⊢
          rw [k2]
          constructor
          · intro e
            exact ⟨by simp, k1, e⟩
          · exact fun e => e.2.2
        · rw [h3 _ (fun p hp e => hin ⟨p, hp, e⟩), h]
          constructor
          · rintro ⟨k1, k2, k3⟩
            exact ⟨List.mem_append_left _ k1, k2, k3⟩
          · rintro ⟨k1, k2, k3⟩
            rcases List.mem_append.1 k1 with k1 | k1
            · exact ⟨k1, k2, k3⟩
            · exfalso
              obtain rfl := List.mem_singleton.1 k1
              exact hin ⟨(d, c), by rw [hds]; exact dsL_mem.2 ⟨k2, k3⟩, rfl⟩)
      refine ⟨g1, fun x d c => ?_⟩
      have := g2 x d c
      simp only [List.append_assoc, List.singleton_append] at this
      exact this
  have := key R a0 [] hw0 (fun x d c => ⟨fun h => (by cases h), fun h => (by cases h.1)⟩)
  have e : allA R L = R.foldl (fun m r => putAll r.1 m (dsV R L r.1)) a0 := by
    unfold allA allK
    rw [List.take_length]
  rw [e]
  simpa using this

/-! ### the potential -/
def dmin (m : AM) (A B z : Int) : Int := match m.at? [z, A], m.at? [z, B] with
  | some x, some y => min x y
  | some x, none => x
  | none, some y => y
  | none, none => 0
theorem thr_ok {R : List (Int × Bool)} {L : List Lk} (hok : okB R L = true) {x d f t h : Int} (hh : 1 ≤ h ∧ h ≤ 1000) (ht : thrV (allA R L) x d f t h = true) :
    ∃ p q, (allA R L).at? [x, f] = some p ∧ (allA R L).at? [t, d] = some q ∧ p + h + q = (allA R L).get [x, d] := by
  unfold thrV at ht
  by_cases h1 : (allA R L).has [x, f] = true
  · rw [if_pos h1] at ht
    by_cases h2 : (allA R L).has [t, d] = true
    · rw [if_pos h2] at ht
      obtain ⟨p, hp⟩ := at_some h1
      obtain ⟨q, hq⟩ := at_some h2
      have hv := vt_of_ok hok
      obtain ⟨x1, _, p1⟩ := ((all_ok hok).2 x f p).1 hp
      obtain ⟨t1, _, q1⟩ := ((all_ok hok).2 t d q).1 hq
      have hp2 := (dist_ok hv x1).way _ _ p1
      have hq2 := (dist_ok hv t1).way _ _ q1
      have e1 : (allA R L).get [x, f] = p := by rw [AM.get_eq, hp]; rfl
      have e2 : (allA R L).get [t, d] = q := by rw [AM.get_eq, hq]; rfl
      rw [e1, e2, wi (n := p + h) (by omega), wi (by omega)] at ht
      exact ⟨p, q, hp, hq, by simpa using ht⟩
    · rw [if_neg h2] at ht
      cases ht
  · rw [if_neg h1, if_neg Bool.false_ne_true] at ht
    cases ht
theorem all_tri {R : List (Int × Bool)} {L : List Lk} (hok : okB R L = true) {x t d p q : Int} (hp : (allA R L).at? [x, t] = some p) (hq : (allA R L).at? [t, d] = some q) : ∃ r, (allA R L).at? [x, d] = some r ∧ r ≤ p + q := by
  have hv := vt_of_ok hok
  obtain ⟨x1, _, p1⟩ := ((all_ok hok).2 x t p).1 hp
  obtain ⟨t1, d1, q1⟩ := ((all_ok hok).2 t d q).1 hq
  obtain ⟨r, h1, h2⟩ := dist_le hv x1 (((dist_ok hv x1).way _ _ p1).1.trans ((dist_ok hv t1).way _ _ q1).1)
  exact ⟨r, ((all_ok hok).2 x d r).2 ⟨x1, d1, h1⟩, h2⟩
theorem get_of {a : AM} {k : List Int} {v : Int} (h : a.at? k = some v) : a.get k = v := by
  rw [AM.get_eq, h]
  rfl

theorem dmin_comm (m : AM) (A B z : Int) : dmin m A B z = dmin m B A z := by
  unfold dmin
  cases m.at? [z, A] <;> cases m.at? [z, B] <;> simp [Int.min_comm]
theorem dmin_le {m : AM} {A B z p : Int} (h : m.at? [z, A] = some p) : dmin m A B z ≤ p := by
  unfold dmin
  rw [h]
  cases m.at? [z, B] with
  | none => exact Int.le_refl _
  | some q => simp only; omega
/-- What stands behind is nearer. -/
theorem behind_near {R : List (Int × Bool)} {L : List Lk} (hok : okB R L = true) {f t h d : Int} (he : Edge L f t h) {G : RowsI} {e : Tri} (hE : Edge L e.x e.y e.c) (ht : bhT (allA R L) f t h d G e = true) : dmin (allA R L) f t e.y < dmin (allA R L) f t e.x := by
  have hv := vt_of_ok hok
  have hh := (edge_ids hv he).2.2.2
  have hc := (edge_ids hv hE).2.2.2
  unfold bhT at ht
  obtain ⟨t1, t2, t3⟩ : thrV (allA R L) e.x d e.x e.y e.c = true ∧ thrV (allA R L) e.x d f t h = true ∧ thrV (allA R L) e.y d f t h = true := by
    cases h0 : (e.x != f) <;> cases h1 : thrV (allA R L) e.x d e.x e.y e.c <;> cases h2 : thrV (allA R L) e.x d f t h <;> cases h3 : thrV (allA R L) e.y d f t h <;> simp [h0, h1, h2, h3] at ht ⊢
  obtain ⟨p0, q1, g1, g2, g3⟩ := thr_ok hok hc t1
  obtain ⟨p2, q2, g4, g5, g6⟩ := thr_ok hok hh t2
  obtain ⟨p3, q3, g7, g8, g9⟩ := thr_ok hok hh t3
  rw [g5] at g8
  injection g8 with g8
  subst g8
  obtain ⟨x1, _, _⟩ := ((all_ok hok).2 _ _ _).1 g1
  have hp0 : p0 = 0 := by
    have := ((all_ok hok).2 e.x e.x p0).1 g1
    have h2 := (dist_ok hv x1).src
    rw [this.2.2] at h2
    injection h2
  have hyd : (allA R L).get [e.y, d] = q1 := get_of g2
  rw [hyd] at g9
  have hlt : p3 < p2 := by omega
  have hy := dmin_le (B := t) g7
  have hx : dmin (allA R L) f t e.x = p2 := by
    unfold dmin
    rw [g4]
    cases g10 : (allA R L).at? [e.x, t] with
    | none => rfl
    | some p4 =>
      obtain ⟨r, k1, k2⟩ := all_tri hok g10 g5
      have := get_of k1
      simp only
      omega
  omega
theorem dmin_range {R : List (Int × Bool)} {L : List Lk} (hok : okB R L = true) (A B z : Int) : 0 ≤ dmin (allA R L) A B z ∧ dmin (allA R L) A B z ≤ 24000 := by
  have hv := vt_of_ok hok
  have key : ∀ {w p : Int}, (allA R L).at? [z, w] = some p → 0 ≤ p ∧ p ≤ 24000 := by
    intro w p h
    obtain ⟨z1, _, h1⟩ := ((all_ok hok).2 z w p).1 h
    exact ((dist_ok hv z1).way _ _ h1).2
  unfold dmin
  cases h1 : (allA R L).at? [z, A] with
  | none => cases h2 : (allA R L).at? [z, B] with
    | none => simp
    | some q => exact key h2
  | some p =>
    have := key h1
    cases h2 : (allA R L).at? [z, B] with
    | none => exact this
    | some q =>
      have := key h2
      simp only
      omega

theorem tris_edge {L : List Lk} {l : Lk} (hl : l ∈ L) : ∀ e ∈ tris l, Edge L e.x e.y e.c := by
  intro e he
  simp only [tris, List.mem_cons, List.not_mem_nil, or_false] at he
  rcases he with rfl | rfl
  · exact ⟨l, hl, .inl ⟨rfl, rfl, rfl⟩⟩
  · exact ⟨l, hl, .inr ⟨rfl, rfl, rfl⟩⟩
theorem behind_pot {R : List (Int × Bool)} {L : List Lk} {A B : Int} {H : List (Int × Int)} (hH : ∀ p ∈ H, p = (A, B) ∨ p = (B, A)) :
    okB R L = true → ∀ x y, y ∈ (bhV R L H).G [x] → dmin (allA R L) A B y < dmin (allA R L) A B x := by
  intro hok
  have hv := vt_of_ok hok
  have inv : (fun s : BhS => ∀ x y, y ∈ s.G [x] → dmin (allA R L) A B y < dmin (allA R L) A B x) (bhV R L H) := by
    refine fold_inv (fun s : BhS => ∀ x y, y ∈ s.G [x] → dmin (allA R L) A B y < dmin (allA R L) A B x) (fun s p hp hs => ?_) (fun x y hy => by cases hy)
    unfold bhH
    split
    · rename_i hth
      have hcst : costV R L p.1 p.2 = ((costV R L p.1 p.2).1, true) := by rw [← hth]
      have hed := (cost_iff hok).1 hcst
      refine fold_inv (fun s : BhS => ∀ x y, y ∈ s.G [x] → dmin (allA R L) A B y < dmin (allA R L) A B x) (fun s r _ hs => ?_) hs
      refine fold_inv (fun s : BhS => ∀ x y, y ∈ s.G [x] → dmin (allA R L) A B y < dmin (allA R L) A B x) (fun s l hl hs => ?_) hs
      refine fold_inv (fun s : BhS => ∀ x y, y ∈ s.G [x] → dmin (allA R L) A B y < dmin (allA R L) A B x) (fun s e he hs => ?_) hs
      unfold bhStep
      split
      · rename_i hT
        have hlt := behind_near hok hed (tris_edge hl e he) hT
        have hlt : dmin (allA R L) A B e.y < dmin (allA R L) A B e.x := by
          rcases hH p hp with rfl | rfl
          · exact hlt
          · rw [dmin_comm _ A B e.y, dmin_comm _ A B e.x]
            exact hlt
        intro x y hy
        have hy2 : y ∈ (if ([x] : List Int) = [e.x] then s.G [e.x] ++ [e.y] else s.G [x]) := hy
        by_cases hk : ([x] : List Int) = [e.x]
        · rw [if_pos hk] at hy2
          injection hk with hk
          subst hk
          rcases List.mem_append.1 hy2 with hy2 | hy2
          · exact hs _ _ hy2
          · rw [List.mem_singleton.1 hy2]
            exact hlt
        · rw [if_neg hk] at hy2
          exact hs x y hy2
      · exact hs
    · exact hs
  exact inv
theorem behind_none {R : List (Int × Bool)} {L : List Lk} (H : List (Int × Int)) (hok : okB R L = false) : bhV R L H = bh0 := by
  have inv : (fun s : BhS => s = bh0) (bhV R L H) := by
    refine fold_inv (fun s : BhS => s = bh0) (fun s p hp hs => ?_) rfl
    unfold bhH
    have : (costV R L p.1 p.2).2 = false := by
      unfold costV
      rw [if_pos hok]
    rw [this, if_neg Bool.false_ne_true]
    exact hs
  exact inv

theorem chV_dirs (R : List (Int × Bool)) (L : List Lk) (c : Chg) : ∀ p ∈ (chV R L c).dirs, p = (c.a, c.b) ∨ p = (c.b, c.a) := by
  have inv : (fun s : ChS => ∀ p ∈ s.dirs, p = (c.a, c.b) ∨ p = (c.b, c.a)) (chV R L c) := by
    refine fold_inv (fun s : ChS => ∀ p ∈ s.dirs, p = (c.a, c.b) ∨ p = (c.b, c.a)) (fun s p hp hs => ?_) (fun p hp => by cases hp)
    have hp' : p = (c.a, c.b) ∨ p = (c.b, c.a) := by
      simpa [hopsOf] using hp
    unfold chStep
    dsimp only
    split
    · intro q hq
      rcases List.mem_append.1 hq with hq | hq
      · exact hs q hq
      · rw [List.mem_singleton.1 hq]
        exact hp'
    · exact hs
  exact inv
theorem readV_dirs (R : List (Int × Bool)) (L : List Lk) (c : Chg) : ∀ p ∈ (readV R L c).dirs, p = (c.a, c.b) ∨ p = (c.b, c.a) := by
  have h := chV_dirs R L c
  unfold readV
  by_cases h1 : ((applyV R L c).2.2 != 0) = true
  · rw [if_pos h1]
    exact fun p hp => by cases hp
  rw [if_neg h1]
  by_cases h2 : (if (chV R L c).up = true then (chV R L c).dn else false) = true
  · rw [if_pos h2]
    exact fun p hp => by cases hp
  rw [if_neg h2]
  by_cases h3 : (chV R L c).dn = true
  · rw [if_pos h3]
    exact h
  · rw [if_neg h3]
    exact h

theorem rank_ok (R : List (Int × Bool)) (L : List Lk) (c : Chg) : RankOK R L c := by
  unfold RankOK aheadC
  have hd := readV_dirs R L c
  generalize readV R L c = rd at hd ⊢
  cases hok : okB rd.R rd.L with
  | false =>
    rw [behind_none rd.dirs hok]
    refine ⟨fun _ => 0, fun x => Nat.zero_le _, fun x y hy => ?_⟩
    split at hy
    · rw [turnC_mem] at hy
      cases hy.2
    · cases hy
  | true =>
    have hp := behind_pot hd hok
    split
    · refine ⟨fun x => (100000 - dmin (allA rd.R rd.L) c.a c.b x).toNat, fun x => ?_, fun x y hy => ?_⟩
      · have := dmin_range hok c.a c.b x
        show (100000 - dmin (allA rd.R rd.L) c.a c.b x).toNat ≤ 1000000
        omega
      · have h1 := hp y x (turnC_mem.1 hy).2
        have h2 := dmin_range hok c.a c.b x
        have h3 := dmin_range hok c.a c.b y
        show (100000 - dmin (allA rd.R rd.L) c.a c.b y).toNat < (100000 - dmin (allA rd.R rd.L) c.a c.b x).toNat
        omega
    · refine ⟨fun x => (dmin (allA rd.R rd.L) c.a c.b x).toNat, fun x => ?_, fun x y hy => ?_⟩
      · have := dmin_range hok c.a c.b x
        show (dmin (allA rd.R rd.L) c.a c.b x).toNat ≤ 1000000
        omega
      · have h1 := hp x y hy
        have h2 := dmin_range hok c.a c.b x
        have h3 := dmin_range hok c.a c.b y
        show (dmin (allA rd.R rd.L) c.a c.b y).toNat < (dmin (allA rd.R rd.L) c.a c.b x).toNat
        omega
end Go.Proofs.Ytahhejlpmacloaa

/- The walk of the law's sanity check. -/
namespace Go.Proofs.Ytahhejlpmacloaa
open Go Go.Eng

def R0 : List (Int × Bool) := [(1, true), (2, true), (3, true), (4, true)]
def L0 : List Lk := [⟨1, 2, 1, 1, 0⟩, ⟨1, 3, 1, 1, 0⟩, ⟨1, 4, 1, 1, 0⟩, ⟨2, 3, 1, 1, 0⟩]
def c0 : Chg := ⟨1, 2, 0, 0⟩
set_option maxRecDepth 100000 in
theorem read0 : (readV R0 L0 c0).kind = 1 ∧ (readV R0 L0 c0).e = 0 := ⟨by kernel_rfl, by kernel_rfl⟩
set_option maxRecDepth 100000 in
theorem ahead0 : aheadC R0 L0 c0 [1] = [4] ∧ aheadC R0 L0 c0 [4] = [] := ⟨by kernel_rfl, by kernel_rfl⟩
theorem hgt0 : hgtC (aheadC R0 L0 c0) 1 = 1 ∧ hgtC (aheadC R0 L0 c0) 4 = 0 ∧ 0 ≤ hgtC (aheadC R0 L0 c0) 2 ∧ 0 ≤ hgtC (aheadC R0 L0 c0) 3 := by
  obtain ⟨p, hp⟩ := rank_ok R0 L0 c0
  have hf := hgtC_is hp
  have nn : ∀ x, 0 ≤ hgtC (aheadC R0 L0 c0) x := fun x => by rw [hf x]; exact maxL_nonneg _
  have h4 : hgtC (aheadC R0 L0 c0) 4 = 0 := by rw [hf 4, ahead0.2]; rfl
  have h1 : hgtC (aheadC R0 L0 c0) 1 = 1 := by rw [hf 1, ahead0.1, List.map_cons, List.map_nil, h4]; rfl
  exact ⟨h1, h4, nn 2, nn 3⟩
theorem ranks0 : ∃ r2 r3, 0 ≤ r2 ∧ 0 ≤ r3 ∧ ranksV R0 L0 c0 = [(1, 1), (2, r2), (3, r3), (4, 0)] := by
  obtain ⟨h1, h4, h2, h3⟩ := hgt0
  refine ⟨_, _, h2, h3, ?_⟩
  unfold ranksV
  rw [if_neg (by rw [read0.2]; simp)]
  show [((1 : Int), hgtC (aheadC R0 L0 c0) 1), (2, hgtC (aheadC R0 L0 c0) 2), (3, hgtC (aheadC R0 L0 c0) 3), (4, hgtC (aheadC R0 L0 c0) 4)] = _
  rw [h1, h4]

noncomputable def HD11 : List (Nat × FSpec) := [(6, spRanks), (22, spKind), (11, spAllowed)]
set_option maxRecDepth 100000 in
theorem hHD11 : GOK Try.prog HD11 := GOK.cons (enters Try.func6 rfl (by kernel_rfl)) ranks_holds (GOK.cons (enters Try.func22 rfl (by kernel_rfl)) kind_holds (GOK.cons (enters Try.func11 rfl (by kernel_rfl)) allowed_holds hG0))

def awA : St := ⟨[(1, .one (.ptr 0 0))], [(0, .box 28 [.own 1, .own 2]), (1, .row 47 2 4 (rtL R0)), (2, .row 52 5 4 (lkG L0))]⟩
def awC (rk : List (Int × Int)) : St := ⟨[(2, .one (.own 0)), (3, iv 0), (4, iv 1), (5, iv 0)], [(0, .row 64 2 4 (stG rk))]⟩
def spAwake : FSpec
  | [], [] => some ⟨[], bv' true, []⟩
  | _, _ => none
set_option maxRecDepth 100000 in
set_option maxHeartbeats 4000000 in
theorem awake_holds : Holds Try.prog 8 spAwake := by
  refine Holds.of hT Try.func8 rfl 69 rfl fun args bs out h hc => ?_
  unfold spAwake at h
  split at h
  rotate_left
  · cases h
  simp only [Option.some.injEq] at h
  subst h
  refine ⟨by simp, by simp [Res.live], fun F hF => ?_⟩
  refine W.seqR hT hHD11 rfl (by (repeat' (first | assumption | exact rfl | exact trivial | omega | (dsimp only; omega) | refine ⟨?_, ?_⟩ | intro _ | (simp_all; done) | fail))) ?_
  refine W.seqR hT hHD11 rfl (by (repeat' (first | assumption | exact rfl | exact trivial | omega | (dsimp only; omega) | refine ⟨?_, ?_⟩ | intro _ | (simp_all; done) | fail))) ?_
  refine W.cut (ρ := [(0, some 192), (1, some 80), (2, some 160)]) (nx' := 3) (t := awA) ?_ ?_
  · refine ⟨by rw [hF]; rfl, ?_, ?_, rfl, rfl, rfl⟩ <;> (repeat' (first | exact rfl | exact trivial | exact cellM.refl _ | exact fun _ _ _ _ => cellM.refl _ | exact fun _ => ⟨rfl, fun _ _ _ _ => cellM.refl _⟩ | refine ⟨?_, ?_⟩ | fail))
    · intro i hi j hj
      match i, hi, j, hj with
      | 0, _, 0, _ => exact cellM.refl _
      | 0, _, 1, _ => exact cellM.refl _
      | 1, _, 0, _ => exact cellM.refl _
      | 1, _, 1, _ => exact cellM.refl _
      | 2, _, 0, _ => exact cellM.refl _
      | 2, _, 1, _ => exact cellM.refl _
      | 3, _, 0, _ => exact cellM.refl _
      | 3, _, 1, _ => exact cellM.refl _
    · intro i hi j hj
      match i, hi, j, hj with
      | 0, _, 0, _ => exact cellM.refl _
      | 0, _, 1, _ => exact cellM.refl _
      | 0, _, 2, _ => exact cellM.refl _
      | 0, _, 3, _ => exact cellM.refl _
      | 0, _, 4, _ => exact cellM.refl _
      | 1, _, 0, _ => exact cellM.refl _
      | 1, _, 1, _ => exact cellM.refl _
      | 1, _, 2, _ => exact cellM.refl _
      | 1, _, 3, _ => exact cellM.refl _
      | 1, _, 4, _ => exact cellM.refl _
      | 2, _, 0, _ => exact cellM.refl _
      | 2, _, 1, _ => exact cellM.refl _
      | 2, _, 2, _ => exact cellM.refl _
      | 2, _, 3, _ => exact cellM.refl _
      | 2, _, 4, _ => exact cellM.refl _
      | 3, _, 0, _ => exact cellM.refl _
      | 3, _, 1, _ => exact cellM.refl _
      | 3, _, 2, _ => exact cellM.refl _
      | 3, _, 3, _ => exact cellM.refl _
      | 3, _, 4, _ => exact cellM.refl _
  have eR : rts 4 (rtL R0) = R0 := rts_rtL R0
  have eL : lks 4 (lkG L0) = L0 := lks_lkG' L0
  obtain ⟨r2, r3, h2, h3, hrk⟩ := ranks0
  have hrk : ranksV (rts 4 (rtL R0)) (lks 4 (lkG L0)) ⟨1, 2, 0, 0⟩ = [(1, 1), (2, r2), (3, r3), (4, 0)] := by rw [eR, eL]; exact hrk
  have hk : (readV (rts 4 (rtL R0)) (lks 4 (lkG L0)) ⟨1, 2, 0, 0⟩).kind = 1 := by rw [eR, eL]; exact read0.1
  have he : (readV (rts 4 (rtL R0)) (lks 4 (lkG L0)) ⟨1, 2, 0, 0⟩).e = 0 := by rw [eR, eL]; exact read0.2
  refine W.seqR hT hHD11 rfl (by exact ⟨by omega, by omega, rtL_ok _ _, lkG_ok _ _, rank_ok _ _ _, trivial⟩) ?_
  refine W.seqR hT hHD11 rfl (by exact ⟨by omega, by omega, rtL_ok _ _, lkG_ok _ _, trivial⟩) ?_
  refine W.cut (ρ := [(0, some 35)]) (nx' := 1) (t := awC [(1, 1), (2, r2), (3, r3), (4, 0)]) ?_ ?_
  · refine ⟨by rw [hF]; rfl, ?_, ?_, rfl, rfl, rfl⟩ <;> (repeat' (first | exact rfl | exact trivial | exact cellM.refl _ | exact fun _ _ _ _ => cellM.refl _ | exact fun _ => ⟨rfl, fun _ _ _ _ => cellM.refl _⟩ | refine ⟨?_, ?_⟩ | fail))
    rw [hrk]
    exact fun _ _ _ _ => cellM.refl _
  generalize hrk2 : [((1 : Int), (1 : Int)), (2, r2), (3, r3), (4, 0)] = rk
  have e0 : stAt rk 0 = (1, 1) := by rw [← hrk2]; rfl
  have e3 : stAt rk 3 = (4, 0) := by rw [← hrk2]; rfl
  have hl4 : rk.length = 4 := by rw [← hrk2]; rfl
  have hsr : sts 4 (stG rk) = rk := by rw [← hl4]; exact sts_stG rk
  obtain ⟨_, i0, z0, _, _, _, _, _, hst64, _⟩ := hT 64 _ rfl
  have hgt64 : Try.prog.eqGuardType Try.prog.depth 64 = false := by kernel_rfl
  have h64 := (hT 64 _ rfl).1
  refine W.seqO (WO.run 20 hT hHD11 rfl rfl (by exact ⟨rfl, fun _ => trivial, fun h => ⟨rfl, rfl, trivial⟩, fun h => h, fun _ => rfl, fun _ => trivial, fun h => ⟨rfl, rfl, trivial⟩, fun h => h, fun _ => rfl, fun _ => trivial, fun h => ⟨rfl, trivial⟩, fun h => ⟨rfl, rfl, trivial⟩, fun h => h, fun _ => rfl, fun _ => trivial, fun h => ⟨rfl, by omega, by omega, trivial⟩, fun h => ⟨rfl, by omega, trivial⟩, fun _ => trivial, trivial⟩) ?_)
  refine WO.anyG rfl rfl rfl rfl rfl rfl rfl (eqPair_any rfl h64 hst64 u3 u3 rfl rfl (by decide) (by decide) hgt64 rfl (by exact ⟨rfl, trivial⟩) rfl (by exact ⟨rfl, trivial⟩) _) ?_
  rintro E rfl
  refine WO.run 6 hT hHD11 rfl rfl (by exact ⟨fun _ => rfl, fun _ => rfl, fun _ => trivial, fun h => ⟨h, by omega, by omega, trivial⟩, fun h => ⟨h, by omega, trivial⟩, fun _ => trivial, trivial⟩) ?_
  have hg1 : (if (if (if (if ((0 : Int) == 0) = true then (0 : Int) == 0 else false) = true then (1 : Int) == 1 else false) = true then ((4 : Nat) : Int) == 4 else false) = true then (stAt rk (Int.toNat 0)).1 == 1 && (stAt rk (Int.toNat 0)).2 == 1 else false) = true := by
    have : stAt rk (Int.toNat 0) = (1, 1) := e0
    rw [this]
    rfl
  refine WO.anyG rfl rfl rfl rfl rfl hg1 rfl (eqPair_any rfl h64 hst64 u3 u3 rfl rfl (by decide) (by decide) hgt64 rfl (by exact ⟨hg1, trivial⟩) rfl (by exact ⟨hg1, trivial⟩) _) ?_
  rintro E rfl
  have hg2 : (if (if (if (if (if ((0 : Int) == 0) = true then (0 : Int) == 0 else false) = true then (1 : Int) == 1 else false) = true then ((4 : Nat) : Int) == 4 else false) = true then (stAt rk (Int.toNat 0)).1 == 1 && (stAt rk (Int.toNat 0)).2 == 1 else false) = true then (stAt rk (Int.toNat 3)).1 == 4 && (stAt rk (Int.toNat 3)).2 == 0 else false) = true := by
    have : stAt rk (Int.toNat 3) = (4, 0) := e3
    rw [this, if_pos hg1]
    rfl
  refine WO.run 3 hT hHD11 rfl rfl (by exact ⟨fun _ => rfl, fun _ => rfl, fun _ => trivial, trivial⟩) ?_
  refine WO.runG hT hHD11 rfl rfl rfl rfl rfl hg2 rfl rfl (by exact trivial) ?_
  have i4 : intsOK 1 (cellAt [.val (.int .i64 4)] 1) := fun i hi => by match i, hi with | 0, _ => rfl
  have i1 : intsOK 1 (cellAt [.val (.int .i64 1)] 1) := fun i hi => by match i, hi with | 0, _ => rfl
  have hA1 : allowedV (sts 4 (stG rk)) (ints 1 (cellAt [.val (.int .i64 4)] 1)) = true := by
    rw [hsr]
    show allowedV rk [4] = true
    refine allowed_true fun i hi j hj => ?_
    rw [hl4] at hi hj
    rw [← hrk2]
    match i, hi, j, hj with
    | 0, _, 0, _ => first | (simp [badP, stAt]; done) | (simp [badP, stAt]; omega)
    | 0, _, 1, _ => first | (simp [badP, stAt]; done) | (simp [badP, stAt]; omega)
    | 0, _, 2, _ => first | (simp [badP, stAt]; done) | (simp [badP, stAt]; omega)
    | 0, _, 3, _ => first | (simp [badP, stAt]; done) | (simp [badP, stAt]; omega)
    | 1, _, 0, _ => first | (simp [badP, stAt]; done) | (simp [badP, stAt]; omega)
    | 1, _, 1, _ => first | (simp [badP, stAt]; done) | (simp [badP, stAt]; omega)
    | 1, _, 2, _ => first | (simp [badP, stAt]; done) | (simp [badP, stAt]; omega)
    | 1, _, 3, _ => first | (simp [badP, stAt]; done) | (simp [badP, stAt]; omega)
    | 2, _, 0, _ => first | (simp [badP, stAt]; done) | (simp [badP, stAt]; omega)
    | 2, _, 1, _ => first | (simp [badP, stAt]; done) | (simp [badP, stAt]; omega)
    | 2, _, 2, _ => first | (simp [badP, stAt]; done) | (simp [badP, stAt]; omega)
    | 2, _, 3, _ => first | (simp [badP, stAt]; done) | (simp [badP, stAt]; omega)
    | 3, _, 0, _ => first | (simp [badP, stAt]; done) | (simp [badP, stAt]; omega)
    | 3, _, 1, _ => first | (simp [badP, stAt]; done) | (simp [badP, stAt]; omega)
    | 3, _, 2, _ => first | (simp [badP, stAt]; done) | (simp [badP, stAt]; omega)
    | 3, _, 3, _ => first | (simp [badP, stAt]; done) | (simp [badP, stAt]; omega)
  have hA2 : allowedV (sts 4 (stG rk)) (ints 1 (cellAt [.val (.int .i64 1)] 1)) = false := by
    rw [hsr]
    show allowedV rk [1] = false
    refine allowed_false (i := 3) (j := 0) (by omega) (by omega) ?_
    unfold badP
    rw [e3, e0]
    rfl
  refine WO.runG hT hHD11 rfl rfl rfl rfl rfl hg2 rfl rfl (by exact ⟨hg2, by omega, by omega, stG_ok _ _, i4, trivial⟩) ?_
  refine WO.run 3 hT hHD11 rfl rfl (by exact ⟨fun _ => rfl, fun _ => rfl, fun _ => trivial, trivial⟩) ?_
  have hg3 : (if (if (if (if (if (if ((0 : Int) == 0) = true then (0 : Int) == 0 else false) = true then (1 : Int) == 1 else false) = true then ((4 : Nat) : Int) == 4 else false) = true then (stAt rk (Int.toNat 0)).1 == 1 && (stAt rk (Int.toNat 0)).2 == 1 else false) = true then (stAt rk (Int.toNat 3)).1 == 4 && (stAt rk (Int.toNat 3)).2 == 0 else false) = true then allowedV (sts 4 (stG rk)) (ints 1 (cellAt [.val (.int .i64 4)] 1)) else false) = true := by
    rw [if_pos hg2]
    exact hA1
  refine WO.runG hT hHD11 rfl rfl rfl rfl rfl hg3 rfl rfl (by exact trivial) ?_
  refine WO.runG hT hHD11 rfl rfl rfl rfl rfl hg3 rfl rfl (by exact ⟨hg3, by omega, by omega, stG_ok _ _, i1, trivial⟩) ?_
  refine WO.run 3 hT hHD11 rfl rfl (by exact ⟨fun _ => trivial, fun h => h, fun _ => rfl, trivial⟩) (WO.done (Nat.le_refl _) ?_)
  refine W.ret ⟨_, [], rfl, rfl, ?_, ?_, rfl, rfl, rfl⟩ <;> (repeat' (first | exact rfl | exact trivial | exact cellM.refl _ | exact fun _ _ _ _ => cellM.refl _ | exact fun _ => ⟨rfl, fun _ _ _ _ => cellM.refl _⟩ | refine ⟨?_, ?_⟩ | fail))
  show Value.bool (if (if (if (if (if (if (if ((0 : Int) == 0) = true then (0 : Int) == 0 else false) = true then (1 : Int) == 1 else false) = true then ((4 : Nat) : Int) == 4 else false) = true then (stAt rk (Int.toNat 0)).1 == 1 && (stAt rk (Int.toNat 0)).2 == 1 else false) = true then (stAt rk (Int.toNat 3)).1 == 4 && (stAt rk (Int.toNat 3)).2 == 0 else false) = true then allowedV (sts 4 (stG rk)) (ints 1 (cellAt [.val (.int .i64 4)] 1)) else false) = true then !allowedV (sts 4 (stG rk)) (ints 1 (cellAt [.val (.int .i64 1)] 1)) else false) = Value.bool true
  rw [if_pos hg3, hA2]
  rfl
end Go.Proofs.Ytahhejlpmacloaa

/- The walk of the law TransitionBegins. -/
namespace Go.Proofs.Ytahhejlpmacloaa
open Go Go.Eng

def flatN (F : RowsI) (i : Nat) : List Int := (List.range i).flatMap fun j : Nat => F [(j : Int)]
theorem flatN_succ (F : RowsI) (i : Nat) : flatN F (i + 1) = flatN F i ++ F [(i : Int)] := by
  unfold flatN
  rw [List.range_succ, List.flatMap_append]
  simp
def ordFV (l : List (Int × Int)) : RowsI := sortR (ordF (greatV l) l) (ordM l)
/-- What the law says of the routers R, the links L, the plan c. -/
structure LawP (R : List (Int × Bool)) (L : List Lk) (c : Chg) : Prop where
  e1 : (readV R L c).e ≠ 1
  nd : (readV R L c).e = 0 → ((ranksV R L c).map (·.1)).Nodup
  len : (readV R L c).e = 0 → (ranksV R L c).length ≤ 12 ∧ ordM (ranksV R L c) ≤ 25 ∧ (∀ i : Nat, (ordFV (ranksV R L c) [(i : Int)]).length ≤ 12) ∧ ∀ i, i ≤ ordM (ranksV R L c) → (flatN (ordFV (ranksV R L c)) i).length ≤ 12
  new : (readV R L c).e = 0 → ∀ i : Nat, i < ordM (ranksV R L c) → ∀ k, k < (ordFV (ranksV R L c) [(i : Int)]).length → (ordFV (ranksV R L c) [(i : Int)]).getD k 0 ∉ flatN (ordFV (ranksV R L c)) i ++ (ordFV (ranksV R L c) [(i : Int)]).take k
  ok : (readV R L c).e = 0 → ∀ i : Nat, i < ordM (ranksV R L c) → ∀ k, k < (ordFV (ranksV R L c) [(i : Int)]).length → allowedV (ranksV R L c) (flatN (ordFV (ranksV R L c)) i ++ (ordFV (ranksV R L c) [(i : Int)]).take (k + 1)) = true
  all : (readV R L c).e = 0 → (flatN (ordFV (ranksV R L c)) (ordM (ranksV R L c))).length = R.length

noncomputable def HD12 : List (Nat × FSpec) := [(4, spNew), (5, spTopo), (7, spChangeF), (6, spRanks), (8, spAwake), (9, spOrd), (10, spHas), (11, spAllowed)]
set_option maxRecDepth 100000 in
theorem hHD12 : GOK Try.prog HD12 := GOK.cons (enters Try.func4 rfl (by kernel_rfl)) new_holds (GOK.cons (enters Try.func5 rfl (by kernel_rfl)) topo_holds (GOK.cons (enters Try.func7 rfl (by kernel_rfl)) change_holds
  (GOK.cons (enters Try.func6 rfl (by kernel_rfl)) ranks_holds (GOK.cons (enters Try.func8 rfl (by kernel_rfl)) awake_holds (GOK.cons (enters Try.func9 rfl (by kernel_rfl)) ord_holds
  (GOK.cons (enters Try.func10 rfl (by kernel_rfl)) has_holds (GOK.cons (enters Try.func11 rfl (by kernel_rfl)) allowed_holds hG0)))))))

/-- The topology that is drawn. -/
def drawR (n : Nat) (g : Get) : List (Int × Bool) := (List.range (topoN n g 0 6).toNat).map fun i : Nat => ((i : Int) + 1, true)
def drawL (n : Nat) (g : Get) : List Lk := orderL (topoX n g 0 6).2
def drawC (n : Nat) (g : Get) : Chg := (chgV n g (topoX n g 0 6).1 (drawR n g) (drawL n g)).2

theorem drawR_length (n : Nat) (g : Get) : (drawR n g).length = (topoN n g 0 6).toNat := by simp [drawR]
theorem drawR_cell (n : Nat) (g : Get) : ∀ i, i < (drawR n g).length → ∀ j, j < 2 → cellM (rtG i j) (rtL (drawR n g) i j) := by
  intro i hi j hj
  have e : rtAt (drawR n g) i = ((i : Int) + 1, true) := by
    rw [rtAt_mem hi]
    simp [drawR]
  match j, hj with
  | 0, _ =>
    simp only [rtL, e]
    exact cellM.refl _
  | 1, _ =>
    simp only [rtL, e]
    exact cellM.refl _
def lwA (n : Nat) (g : Get) (R : List (Int × Bool)) (L : List Lk) (a : Int) : St := ⟨[(3, .one (.ptr 0 0)), (4, .one (.ptr 1 0))], [(0, tapeB n g a), (1, .box 28 [.own 2, .own 3]), (2, .row 47 2 R.length (rtL R)), (3, .row 52 5 L.length (lkG L))]⟩
def lwB (R : List (Int × Bool)) (L : List Lk) (l : List (Int × Int)) (e : Int) : St := ⟨[(4, .one (.ptr 0 0)), (5, .one (.own 1)), (6, iv e)], [(0, topoB R L), (1, .row 64 2 l.length (stG l))]⟩
def lwS (R : List (Int × Bool)) (L : List Lk) (l : List (Int × Int)) (m : Nat) (F : RowsI) : St :=
  ⟨[(4, .one (.ptr 0 0)), (5, .one (.own 1)), (7, .one (.own 2)), (8, .one (.own 3))],
    [(0, topoB R L), (1, .frz l.length 2 (stG l)), (2, .row 3 1 0 (inG [])), (3, .rowR 22 4 m none), (4, .grp 3 1 (fun k => ((F k).length, inG (F k))))]⟩
def lwC (R : List (Int × Bool)) (L : List Lk) (l : List (Int × Int)) (m : Nat) (F : RowsI) (ch : List Int) (i : Nat) : St :=
  ⟨[(4, .one (.ptr 0 0)), (5, .one (.own 1)), (7, .one (.own 2)), (8, .one (.own 3)), (9, iv i)],
    [(0, topoB R L), (1, .frz l.length 2 (stG l)), (2, .row 3 1 ch.length (inG ch)), (3, .rowR 22 4 m none), (4, .grp 3 1 (fun k => ((F k).length, inG (F k))))]⟩
def lwD (R : List (Int × Bool)) (L : List Lk) (l : List (Int × Int)) (m : Nat) (F : RowsI) (ch : List Int) (i k : Nat) : St :=
  ⟨[(4, .one (.ptr 0 0)), (5, .one (.own 1)), (7, .one (.own 2)), (8, .one (.own 3)), (9, iv i), (10, iv k)],
    [(0, topoB R L), (1, .frz l.length 2 (stG l)), (2, .row 3 1 ch.length (inG ch)), (3, .rowR 22 4 m none), (4, .grp 3 1 (fun k => ((F k).length, inG (F k))))]⟩

def spLaw : FSpec
  | [.one (.c (.sl n 1 g))], [] => some ⟨[intsOK n g, LawP (drawR (min n 600) g) (drawL (min n 600) g) (drawC (min n 600) g)], bv' true, []⟩
  | _, _ => none

set_option maxRecDepth 100000 in
set_option maxHeartbeats 4000000 in
theorem law_holds : Holds Try.prog 3 spLaw := by
  refine Holds.of hT Try.func3 rfl 79 rfl fun args bs out h hc => ?_
  unfold spLaw at h
  split at h
  rotate_left
  · cases h
  rename_i n g
  simp only [Option.some.injEq] at h
  subst h
  obtain ⟨hg, hlaw, _⟩ := hc
  refine ⟨by simp, by simp [Res.live], fun F hF => ?_⟩
  have hn6 : min n 600 ≤ 600 := Nat.min_le_right _ _
  have hI : ∀ i, i < min n 600 → isI (g i 0) := fun i hi => hg i (by omega)
  refine W.seqR hT hHD12 rfl (by (repeat' (first | assumption | exact rfl | exact trivial | omega | (dsimp only; omega) | refine ⟨?_, ?_⟩ | intro _ | (simp_all; done) | fail))) ?_
  refine W.seqR hT hHD12 rfl (by (repeat' (first | assumption | exact rfl | exact trivial | omega | (dsimp only; omega) | refine ⟨?_, ?_⟩ | intro _ | (simp_all; done) | fail))) ?_
  refine W.seqR hT hHD12 rfl ⟨⟨hI, Int.le_refl 0, hn6⟩, by omega, trivial⟩ ?_
  generalize hN : min n 600 = N at hlaw hn6 hI ⊢
  have hRl := drawR_length N g
  have hLl : (drawL N g).length = (topoX N g 0 6).2.length := orderL_length _
  have hat : 0 ≤ (topoX N g 0 6).1 := bLoop_at (rawA_nonneg (rawA_nonneg (Int.le_refl 0)))
  have hN6 : (drawR N g).length ≤ 6 := by
    have := rangeV_in (n := N) (get := g) (at_ := 0) (lo := 1) (hi := 6) (by omega) (by omega) (by omega)
    have h2 : topoN N g 0 6 ≤ 6 := this.2
    rw [hRl]
    omega
  have hL6 : (drawL N g).length ≤ 30 := by
    have h1 := bLoop_len (n := N) (get := g) (cost := topoCost N g 0) (j := (topoN N g 0 6 - 1).toNat) (x := (rawA N (rawA N 0), []))
    have h2 : (topoN N g 0 6 - 1).toNat ≤ 5 := by
      have : topoN N g 0 6 ≤ 6 := by
        have := rangeV_in (n := N) (get := g) (at_ := 0) (lo := 1) (hi := 6) (by omega) (by omega) (by omega)
        exact this.2
      omega
    have h3 : (topoN N g 0 6 - 1).toNat * ((topoN N g 0 6 - 1).toNat + 1) ≤ 5 * 6 := Nat.mul_le_mul h2 (by omega)
    rw [hLl]
    show (bLoop N g (topoCost N g 0) (topoN N g 0 6 - 1).toNat (rawA N (rawA N 0), [])).2.length ≤ 30
    simp only [List.length_nil] at h1
    omega
  refine W.cut (ρ := [(0, some 32), (1, some 96), (2, some 80), (3, some 81)]) (nx' := 4) (t := lwA N g (drawR N g) (drawL N g) (topoX N g 0 6).1) ?_ ?_
  · refine ⟨by rw [hF]; rfl, ?_, ?_, rfl, rfl, rfl⟩ <;> (repeat' (first | exact rfl | exact trivial | exact cellM.refl _ | exact fun _ _ _ _ => cellM.refl _ | exact fun _ => ⟨rfl, fun _ _ _ _ => cellM.refl _⟩ | refine ⟨?_, ?_⟩ | fail))
    · exact hRl.symm
    · exact drawR_cell N g
    · exact hLl.symm
  have hcd : drawC N g = (chgV N g (topoX N g 0 6).1 (drawR N g) (drawL N g)).2 := rfl
  generalize (topoX N g 0 6).1 = a1 at hat hcd ⊢
  generalize drawR N g = R at hlaw hN6 hcd ⊢
  generalize drawL N g = L at hlaw hL6 hcd ⊢
  generalize drawC N g = c at hlaw hcd
  have eR := rts_rtL R
  have eL := lks_lkG' L
  have hv : readV (rts R.length (rtL R)) (lks L.length (lkG L)) (chgV N g a1 (rts R.length (rtL R)) (lks L.length (lkG L))).2 = readV R L c := by rw [eR, eL, hcd]
  have hr : ranksV (rts R.length (rtL R)) (lks L.length (lkG L)) (chgV N g a1 (rts R.length (rtL R)) (lks L.length (lkG L))).2 = ranksV R L c := by rw [eR, eL, hcd]
  refine W.settle 1 rfl rfl rfl ?_
  refine W.seq (W.regionDraw hT hHD12 (by repeat (first | exact runIt_nil | (apply runIt_cons; exact rfl))) (by kernel_rfl) hmix ?_ ?_)
  · exact ⟨⟨hI, hat, hn6⟩, by omega, by omega, rtL_ok _ _, lkG_ok _ _, by omega, by omega, rtL_ok _ _, lkG_ok _ _, rank_ok _ _ _, trivial⟩
  refine W.cut (ρ := [(0, some 1), (1, some 68)]) (nx' := 2) (t := lwB R L (ranksV R L c) (readV R L c).e) ?_ ?_
  · refine ⟨by rw [hF]; rfl, ?_, ?_, rfl, rfl, rfl⟩ <;> (repeat' (first | exact rfl | exact trivial | exact cellM.refl _ | exact fun _ _ _ _ => cellM.refl _ | exact fun _ => ⟨rfl, fun _ _ _ _ => cellM.refl _⟩ | refine ⟨?_, ?_⟩ | fail))
    · exact congrArg (fun v : RdV => Value.int .i64 v.e) hv
    · exact congrArg List.length hr
    · intro i hi j hj
      show cellM (stG (ranksV (rts R.length (rtL R)) (lks L.length (lkG L)) (chgV N g a1 (rts R.length (rtL R)) (lks L.length (lkG L))).2) i j) (stG (ranksV R L c) i j)
      rw [hr]
      exact cellM.refl _
  clear hv hr eR eL hcd
  obtain ⟨he1, hnd, hlen, hnew, hok, hall⟩ := hlaw
  generalize (readV R L c).e = e at he1 hnd hlen hnew hok hall ⊢
  generalize ranksV R L c = l at hnd hlen hnew hok hall ⊢
  refine W.seq (W.seqR hT hHD12 rfl (by (repeat' (first | assumption | exact rfl | exact trivial | omega | (dsimp only; omega) | refine ⟨?_, ?_⟩ | intro _ | (simp_all; done) | fail))) (W.cond rfl (fun h0 => ?_) (fun h0 => W.skip ?_)))
  · have h1 : (e != 1) = true := by simp [he1]
    refine W.seqR hT hHD12 rfl (by (repeat' (first | assumption | exact rfl | exact trivial | omega | (dsimp only; omega) | refine ⟨?_, ?_⟩ | intro _ | (simp_all; done) | fail))) ?_
    refine W.ret ⟨_, [], rfl, rfl, ?_, ?_, rfl, rfl, rfl⟩ <;> (repeat' (first | exact rfl | exact trivial | exact cellM.refl _ | exact fun _ _ _ _ => cellM.refl _ | exact fun _ => ⟨rfl, fun _ _ _ _ => cellM.refl _⟩ | refine ⟨?_, ?_⟩ | fail))
    show Value.bool (if (e != 1) = true then true else false) = Value.bool true
    rw [if_pos h1]
  have h0 : e = 0 := by
    have h0 : (e != 0) = false := h0
    simpa using h0
  replace hnd := hnd h0
  obtain ⟨hl12, hm25, hrow, hflat⟩ := hlen h0
  replace hnew := hnew h0
  replace hok := hok h0
  replace hall := hall h0
  clear hlen he1
  have el := sts_stG l
  refine W.seqR hT hHD12 rfl (by (repeat' (first | assumption | exact rfl | exact trivial | omega | (dsimp only; omega) | refine ⟨?_, ?_⟩ | intro _ | (simp_all; done) | fail))) ?_
  refine W.seqR hT hHD12 rfl ⟨hl12, stG_ok _ _, by rw [el]; exact hnd, trivial⟩ ?_
  refine W.cut (ρ := [(0, some 0), (1, some 1), (2, none), (3, some 66), (4, some 67)]) (nx' := 5) (t := lwS R L l (ordM l) (ordFV l)) ?_ ?_
  · rw [el]
    refine ⟨by rw [hF]; rfl, ?_, ?_, rfl, rfl, rfl⟩ <;> (repeat' (first | exact rfl | exact trivial | exact cellM.refl _ | exact fun _ _ _ _ => cellM.refl _ | exact fun _ => ⟨rfl, fun _ _ _ _ => cellM.refl _⟩ | refine ⟨?_, ?_⟩ | fail))
  have hF1 : ∀ i : Nat, (ordFV l [(i : Int)]).length ≤ 12 := fun i => hrow i
  generalize ordFV l = F at hrow hflat hnew hok hall hF1 ⊢
  generalize ordM l = m at hm25 hflat hnew hok hall ⊢
  refine W.seq (W.seqR hT hHD12 rfl (by (repeat' (first | assumption | exact rfl | exact trivial | omega | (dsimp only; omega) | refine ⟨?_, ?_⟩ | intro _ | (simp_all; done) | fail))) ?_)
  refine W.block (W.loop (γ := { i : Nat // i ≤ m }) (fun i => lwC R L l m F (flatN F i.1) i.1) 5 (fun i => m - i.1) ⟨0, Nat.zero_le _⟩ [(0, some 0), (1, some 1), (2, some 2), (3, some 3), (4, some 4)] ?_ ?_)
  · refine ⟨by rw [hF]; rfl, ?_, ?_, rfl, rfl, rfl⟩ <;> (repeat' (first | exact rfl | exact trivial | exact cellM.refl _ | exact fun _ _ _ _ => cellM.refl _ | exact fun _ => ⟨rfl, fun _ _ _ _ => cellM.refl _⟩ | refine ⟨?_, ?_⟩ | fail))
  rintro ⟨i, hi⟩
  dsimp only at hi ⊢
  refine W.seq (W.seqR hT hHD12 rfl (by (repeat' (first | assumption | exact rfl | exact trivial | omega | (dsimp only; omega) | refine ⟨?_, ?_⟩ | intro _ | (simp_all; done) | fail))) (W.cond rfl (fun h1 => W.skip ?_) (fun h1 => W.exit ?_)))
  rotate_left
  · have h1 : i = m := by have h1 : ¬ (i : Int) < (m : Int) := of_decide_eq_false h1; omega
    subst h1
    refine W.seqR hT hHD12 rfl ?_ ?_
    · exact ⟨rfl, fun _ => trivial, fun h => h, fun _ => rfl, trivial⟩
    have h3 : (((flatN F i).length : Int) == (R.length : Int)) = true := by rw [hall]; simp
    refine W.ret ⟨_, [], rfl, rfl, ?_, ?_, rfl, rfl, rfl⟩ <;> (repeat' (first | exact rfl | exact trivial | exact cellM.refl _ | exact fun _ _ _ _ => cellM.refl _ | exact fun _ => ⟨rfl, fun _ _ _ _ => cellM.refl _⟩ | refine ⟨?_, ?_⟩ | fail))
    show Value.bool (if (((flatN F i).length : Int) == (R.length : Int)) = true then true else false) = Value.bool true
    rw [if_pos h3]
  have h1 : i < m := by have h1 : (i : Int) < (m : Int) := of_decide_eq_true h1; omega
  have hsuc := flatN_succ F i
  have hfl := hflat i hi
  have hfl1 := hflat (i + 1) h1
  refine W.seq (W.block ?_)
  refine W.seqR hT hHD12 rfl (by (repeat' (first | assumption | exact rfl | exact trivial | omega | (dsimp only; omega) | refine ⟨?_, ?_⟩ | intro _ | (simp_all; done) | fail))) ?_
  refine W.block (W.loop (γ := { k : Nat // k ≤ (F [(i : Int)]).length }) (fun k => lwD R L l m F (flatN F i ++ (F [(i : Int)]).take k.1) i k.1) 5 (fun k => (F [(i : Int)]).length - k.1) ⟨0, Nat.zero_le _⟩ [(0, some 0), (1, some 1), (2, some 2), (3, some 3), (4, some 4)] ?_ ?_)
  · refine ⟨by rw [hF]; rfl, ?_, ?_, rfl, rfl, rfl⟩ <;> (repeat' (first | exact rfl | exact trivial | exact cellM.refl _ | exact fun _ _ _ _ => cellM.refl _ | exact fun _ => ⟨rfl, fun _ _ _ _ => cellM.refl _⟩ | refine ⟨?_, ?_⟩ | fail))
    · simp
    · simp only [List.take_zero, List.append_nil]
      exact fun _ _ _ _ => cellM.refl _
  rintro ⟨k, hk⟩
  dsimp only at hk ⊢
  refine W.seq (W.seqR hT hHD12 rfl ⟨by omega, by omega, by omega, rfl, trivial⟩ (W.cond rfl (fun h2 => W.skip ?_) (fun h2 => W.exit ?_)))
  rotate_left
  · have h2 : k = (F [(i : Int)]).length := by have h2 : ¬ (k : Int) < ((F [(i : Int)]).length : Int) := of_decide_eq_false h2; omega
    subst h2
    refine W.region hT hHD12 rfl (by (repeat' (first | assumption | exact rfl | exact trivial | omega | (dsimp only; omega) | refine ⟨?_, ?_⟩ | intro _ | (simp_all; done) | fail))) ?_
    refine ⟨⟨i + 1, h1⟩, [(0, some 0), (1, some 1), (2, some 2), (3, some 3), (4, some 4)], ?_, ?_⟩
    · dsimp only
      rw [List.take_length, hsuc]
      refine ⟨by rw [hF]; rfl, ?_, ?_, rfl, rfl, rfl⟩ <;> (repeat' (first | exact rfl | exact trivial | exact cellM.refl _ | exact fun _ _ _ _ => cellM.refl _ | exact fun _ => ⟨rfl, fun _ _ _ _ => cellM.refl _⟩ | refine ⟨?_, ?_⟩ | fail))
      show Value.int .i64 (IntKind.i64.wrap ((i : Int) + 1)) = Value.int .i64 ((i + 1 : Nat) : Int)
      rw [wi (by omega)]
      rfl
    · dsimp only
      omega
  have h2 : k < (F [(i : Int)]).length := by have h2 : (k : Int) < ((F [(i : Int)]).length : Int) := of_decide_eq_true h2; omega
  have hF1i := hF1 i
  have hlt : (flatN F i ++ (F [(i : Int)]).take k).length ≤ 1000 := by
    rw [List.length_append, List.length_take]
    omega
  refine W.seq (W.block ?_)
  refine W.seq (W.seqR hT hHD12 rfl ?_ (W.cond rfl (fun h3 => ?_) (fun h3 => W.skip ?_)))
  · exact ⟨by omega, by omega, by omega, by omega, by show (k : Int) < ((F [(i : Int)]).length : Int); omega, by assumption, by omega, inG_ok _ _, trivial⟩
  · exfalso
    have h3 : decide ((F [(i : Int)]).getD k 0 ∈ ints (flatN F i ++ (F [(i : Int)]).take k).length (inG (flatN F i ++ (F [(i : Int)]).take k))) = true := h3
    rw [ints_inG] at h3
    exact hnew i h1 k h2 (of_decide_eq_true h3)
  refine W.seqR hT hHD12 rfl ?_ ?_
  · exact ⟨by omega, by omega, by omega, by omega, by show (k : Int) < ((F [(i : Int)]).length : Int); omega, by assumption, by omega, by show ((flatN F i ++ (F [(i : Int)]).take k).length + 1) * 8 ≤ 140737488355328; omega, trivial⟩
  have hap : flatN F i ++ (F [(i : Int)]).take (k + 1) = flatN F i ++ (F [(i : Int)]).take k ++ [(F [(i : Int)]).getD k 0] := by
    rw [List.take_succ_eq_append_getElem h2, ← List.append_assoc, List.getD_eq_getElem?_getD, List.getElem?_eq_getElem h2]
    rfl
  have hok1 := hok i h1 k h2
  refine W.cut (ρ := [(0, some 0), (1, some 1), (2, some 405), (3, some 3), (4, some 4)]) (nx' := 5) (t := lwD R L l m F (flatN F i ++ (F [(i : Int)]).take (k + 1)) i k) ?_ ?_
  · rw [hap]
    refine ⟨by rw [hF]; rfl, ?_, ?_, rfl, rfl, rfl⟩ <;> (repeat' (first | exact rfl | exact trivial | exact cellM.refl _ | exact fun _ _ _ _ => cellM.refl _ | exact fun _ => ⟨rfl, fun _ _ _ _ => cellM.refl _⟩ | refine ⟨?_, ?_⟩ | fail))
    · simp [Nat.add_assoc]
    · exact in_app rfl
  have hlt2 : (flatN F i ++ (F [(i : Int)]).take (k + 1)).length ≤ 1000 := by
    rw [List.length_append, List.length_take]
    omega
  generalize hch : flatN F i ++ (F [(i : Int)]).take (k + 1) = ch at hok1 hlt2 ⊢
  have ech : ints ch.length (inG ch) = ch := ints_inG ch
  refine W.seqR hT hHD12 rfl ⟨by omega, by omega, stG_ok _ _, inG_ok _ _, trivial⟩ (W.cond rfl (fun h4 => ?_) (fun h4 => W.skip ?_))
  · exfalso
    have h4 : (!allowedV (sts l.length (stG l)) (ints ch.length (inG ch))) = true := h4
    rw [el, ech, hok1] at h4
    cases h4
  refine W.region hT hHD12 rfl (by (repeat' (first | assumption | exact rfl | exact trivial | omega | (dsimp only; omega) | refine ⟨?_, ?_⟩ | intro _ | (simp_all; done) | fail))) ?_
  refine ⟨⟨k + 1, h2⟩, [(0, some 0), (1, some 1), (2, some 2), (3, some 3), (4, some 4)], ?_, ?_⟩
  · dsimp only
    rw [hch]
    refine ⟨by rw [hF]; rfl, ?_, ?_, rfl, rfl, rfl⟩ <;> (repeat' (first | exact rfl | exact trivial | exact cellM.refl _ | exact fun _ _ _ _ => cellM.refl _ | exact fun _ => ⟨rfl, fun _ _ _ _ => cellM.refl _⟩ | refine ⟨?_, ?_⟩ | fail))
    show Value.int .i64 (IntKind.i64.wrap ((k : Int) + 1)) = Value.int .i64 ((k + 1 : Nat) : Int)
    rw [wi (by omega)]
    rfl
  · dsimp only
    omega
end Go.Proofs.Ytahhejlpmacloaa

/- Plain laws: the topology that is drawn is valid. -/
namespace Go.Proofs.Ytahhejlpmacloaa
open Go Go.Eng

/-! ### the ordering of the links -/
theorem less_iff {x y : Lk} : lkLess x y = true ↔ ltL x y := by
  unfold lkLess ltL
  simp
theorem insL_cons (y : Lk) (L : List Lk) (x : Lk) : insL (y :: L) x = if lkLess y x = true then y :: insL L x else x :: y :: L := by
  unfold insL cutAt
  by_cases h : lkLess y x = true
  · rw [if_pos h]
    simp [List.takeWhile, h]
  · rw [if_neg h]
    simp [List.takeWhile, h]
theorem insL_mem {L : List Lk} {x z : Lk} : z ∈ insL L x ↔ z = x ∨ z ∈ L := by
  induction L with
  | nil => simp [insL, cutAt]
  | cons y L ih =>
    rw [insL_cons]
    split
    · simp only [List.mem_cons, ih]
      exact ⟨fun h => by rcases h with h | h | h <;> simp [h], fun h => by rcases h with h | h | h <;> simp [h]⟩
    · simp
def neL (x y : Lk) : Prop := ¬ (x.a = y.a ∧ x.b = y.b)
theorem insL_asc {L : List Lk} {x : Lk} (h : L.Pairwise ltL) (hx : ∀ y ∈ L, neL y x) : (insL L x).Pairwise ltL := by
  induction L with
  | nil => simp [insL, cutAt]
  | cons y L ih =>
    rw [List.pairwise_cons] at h
    rw [insL_cons]
    by_cases hl : lkLess y x = true
    · rw [if_pos hl]
      refine List.Pairwise.cons (fun z hz => ?_) (ih h.2 (fun z hz => hx z (List.mem_cons_of_mem _ hz)))
      rcases insL_mem.1 hz with rfl | hz
      · exact less_iff.1 hl
      · exact h.1 z hz
    · rw [if_neg hl]
      have hl := mt less_iff.2 hl
      have hn := hx y List.mem_cons_self
      have hxy : ltL x y := by
        unfold ltL neL at *
        omega
      refine List.Pairwise.cons (fun z hz => ?_) (List.Pairwise.cons h.1 h.2)
      rcases List.mem_cons.1 hz with rfl | hz
      · exact hxy
      · have := h.1 z hz
        unfold ltL at *
        omega
theorem order_asc : ∀ (l acc : List Lk), acc.Pairwise ltL → l.Pairwise neL → (∀ x ∈ l, ∀ y ∈ acc, neL y x) → (l.foldl insL acc).Pairwise ltL ∧ ∀ z, z ∈ l.foldl insL acc ↔ z ∈ acc ∨ z ∈ l
  | [], acc, h, _, _ => ⟨h, by simp⟩
  | x :: l, acc, h, hn, hd => by
    rw [List.pairwise_cons] at hn
    have := order_asc l (insL acc x) (insL_asc h (hd x List.mem_cons_self)) hn.2 (fun z hz y hy => by
      rcases insL_mem.1 hy with rfl | hy
      · exact hn.1 z hz
      · exact hd z (List.mem_cons_of_mem _ hz) y hy)
    refine ⟨this.1, fun z => ?_⟩
    rw [List.foldl_cons, this.2 z, insL_mem, List.mem_cons]
    exact ⟨fun h => by rcases h with (h | h) | h <;> simp [h], fun h => by rcases h with h | h | h <;> simp [h]⟩

/-! ### the drawn links -/
structure LkOK (l : Lk) : Prop where
  a1 : 1 ≤ l.a
  ab : l.a < l.b
  ca : 1 ≤ l.ca ∧ l.ca ≤ 1000
  cb : 1 ≤ l.cb ∧ l.cb ≤ 1000
  cap : 0 ≤ l.cap ∧ l.cap ≤ 1000
structure DrJ (b j : Int) (L : List Lk) : Prop where
  ok : ∀ l ∈ L, LkOK l ∧ (l.b < b ∨ (l.b = b ∧ l.a ≤ j))
  ne : L.Pairwise neL
theorem range_cost {n : Nat} {get : Get} {at_ cost : Int} (h : 1 ≤ cost ∧ cost ≤ 5) : 1 ≤ rangeV n get at_ 1 cost ∧ rangeV n get at_ 1 cost ≤ 1000 := by
  have := rangeV_in (n := n) (get := get) (at_ := at_) (lo := 1) (hi := cost) h.1 (by omega) (by omega)
  omega
theorem aStep_ok {n : Nat} {get : Get} {cost b sel : Int} {skip : Bool} {j : Nat} {x : Int × List Lk} (hc : 1 ≤ cost ∧ cost ≤ 5) (hj : (j : Int) + 1 < b) (h : DrJ b j x.2) : DrJ b ((j : Int) + 1) (aStep n get cost b sel skip ((j : Int) + 1) x).2 := by
  rcases aStep_or n get cost b sel skip ((j : Int) + 1) x with e | e <;> rw [e]
  · refine ⟨fun l hl => ?_, ?_⟩
    · rcases List.mem_append.1 hl with hl | hl
      · have := h.ok l hl
        exact ⟨this.1, by omega⟩
      · rw [List.mem_singleton.1 hl]
        have h4 := cut_range (rawV n get (rawA n (rawA n (aAt n sel skip ((j : Int) + 1) x.1)))) (n := 4) (by omega) (by omega)
        exact ⟨⟨by dsimp only; omega, hj, range_cost hc, range_cost hc, by dsimp only; omega⟩, .inr ⟨rfl, Int.le_refl _⟩⟩
    · rw [List.pairwise_append]
      refine ⟨h.ne, List.pairwise_singleton _ _, fun y hy z hz => ?_⟩
      rw [List.mem_singleton.1 hz]
      have := (h.ok y hy).2
      unfold neL
      dsimp only
      omega
  · exact ⟨fun l hl => ⟨(h.ok l hl).1, by have := (h.ok l hl).2; omega⟩, h.ne⟩
theorem aLoop_ok {n : Nat} {get : Get} {cost b sel : Int} {skip : Bool} (hc : 1 ≤ cost ∧ cost ≤ 5) {x : Int × List Lk} (h : DrJ b 0 x.2) : ∀ j : Nat, (j : Int) < b → DrJ b j (aLoop n get cost b sel skip j x).2
  | 0, _ => h
  | j + 1, hj => aStep_ok hc (by omega) (aLoop_ok hc h j (by omega))
theorem bLoop_ok {n : Nat} {get : Get} {cost : Int} (hc : 1 ≤ cost ∧ cost ≤ 5) {x : Int × List Lk} (hx : x.2 = []) : ∀ j : Nat, DrJ ((j : Int) + 2) 0 (bLoop n get cost j x).2
  | 0 => by
    rw [bLoop, hx]
    exact ⟨fun l hl => (List.not_mem_nil hl).elim, List.Pairwise.nil⟩
  | j + 1 => by
    have ih := bLoop_ok (n := n) (get := get) hc hx j
    have := aLoop_ok (n := n) (get := get) (cost := cost) (b := (j : Int) + 2) (sel := rangeV n get (bLoop n get cost j x).1 1 ((j : Int) + 2 - 1)) (skip := oneV n get (rawA n (bLoop n get cost j x).1) 9) hc
      (x := (rawA n (rawA n (bLoop n get cost j x).1), (bLoop n get cost j x).2)) ih ((j : Int) + 2 - 1).toNat (by omega)
    exact ⟨fun l hl => ⟨(this.ok l hl).1, .inl (by have := (this.ok l hl).2; omega)⟩, this.ne⟩

/-! ### Check passes it -/
theorem ok_of_vt {R : List (Int × Bool)} {L : List Lk} (h : VT R L) : okB R L = true := by
  unfold okB checkV
  rw [if_neg ?_, if_neg ?_, if_neg ?_, if_neg ?_, if_neg ?_, if_neg ?_, if_neg ?_]
  · rfl
  · rw [anyP_none]
    · exact Bool.false_ne_true
    intro i hi
    unfold lkStep
    by_cases hp : (i : Int) > 0
    · rw [if_pos (decide_eq_true hp)]
      have := ltL_at h.lasc (i := i - 1) (j := i) (by omega) hi
      have := (cmpL_neg (a := (lkAt L (i - 1)).a) (b := (lkAt L (i - 1)).b) (a' := (lkAt L i).a) (b' := (lkAt L i).b)).2 this
      simpa using this
    · rw [if_neg (by simpa using hp)]
  · rw [anyP_none]
    · exact Bool.false_ne_true
    intro i hi
    have := h.lt (lkAt L i) (by rw [lkAt_mem hi]; exact List.getElem_mem hi)
    simpa using this
  · rw [anyP_none]
    · exact Bool.false_ne_true
    intro i hi
    have := h.ends (lkAt L i) (by rw [lkAt_mem hi]; exact List.getElem_mem hi)
    simp [this.1, this.2]
  · rw [anyP_none]
    · exact Bool.false_ne_true
    intro i hi
    have hm : lkAt L i ∈ L := by rw [lkAt_mem hi]; exact List.getElem_mem hi
    have h1 := h.cost _ hm
    have h2 := h.cap _ hm
    simp [badC, h1, h2]
  · rw [anyP_none]
    · exact Bool.false_ne_true
    intro i hi
    unfold rtStep
    by_cases hp : (i : Int) > 0
    · rw [if_pos (decide_eq_true hp)]
      have := asc_lt h.asc (i := i - 1) (j := i) (by omega) hi
      simpa using this
    · rw [if_neg (by simpa using hp)]
  · rw [anyP_none]
    · exact Bool.false_ne_true
    intro i hi
    have := h.id (rtAt R i).1 (by rw [rtAt_mem hi]; exact List.mem_map.2 ⟨_, List.getElem_mem hi, rfl⟩)
    simp [badR, this]
  · have h1 := h.nr
    have h2 := h.nl
    unfold manyB
    simp
    omega

theorem drawR_ids (n : Nat) (g : Get) : ids (drawR n g) = (List.range (topoN n g 0 6).toNat).map fun i : Nat => (i : Int) + 1 := by
  unfold ids drawR
  rw [List.map_map]
  rfl
theorem drawN_in (n : Nat) (g : Get) : 1 ≤ topoN n g 0 6 ∧ topoN n g 0 6 ≤ 6 := rangeV_in (n := n) (get := g) (at_ := 0) (lo := 1) (hi := 6) (by omega) (by omega) (by omega)
theorem draw_vt (n : Nat) (g : Get) : VT (drawR n g) (drawL n g) := by
  have hN := drawN_in n g
  have hcost : 1 ≤ topoCost n g 0 ∧ topoCost n g 0 ≤ 5 := pickCost_in
  have hdr : DrJ (((topoN n g 0 6 - 1).toNat : Int) + 2) 0 (topoX n g 0 6).2 := bLoop_ok (n := n) (get := g) hcost rfl (topoN n g 0 6 - 1).toNat
  have hlen := bLoop_len (n := n) (get := g) (cost := topoCost n g 0) (j := (topoN n g 0 6 - 1).toNat) (x := (rawA n (rawA n 0), []))
  have hord := order_asc (topoX n g 0 6).2 [] List.Pairwise.nil hdr.ne (fun x _ y hy => by cases hy)
  have hmem : ∀ l ∈ drawL n g, LkOK l ∧ l.b ≤ topoN n g 0 6 := by
    intro l hl
    have h1 := (hord.2 l).1 hl
    rcases h1 with h1 | h1
    · cases h1
    have h2 := hdr.ok l h1
    refine ⟨h2.1, ?_⟩
    have h3 := h2.2
    have h4 := h2.1.a1
    omega
  have hasc : (ids (drawR n g)).Pairwise (· < ·) := by
    rw [drawR_ids, List.pairwise_map]
    exact List.pairwise_lt_range.imp (fun {a b} h => by omega)
  have hid : ∀ x, x ∈ ids (drawR n g) ↔ 1 ≤ x ∧ x ≤ topoN n g 0 6 := by
    intro x
    rw [drawR_ids, List.mem_map]
    constructor
    · rintro ⟨i, hi, rfl⟩
      have := List.mem_range.1 hi
      omega
    · intro h
      exact ⟨(x - 1).toNat, List.mem_range.2 (by omega), by omega⟩
  refine ⟨?_, ?_, fun x hx => ?_, hasc, fun l hl => ?_, fun l hl => ?_, fun l hl => ?_, fun l hl => ?_, hord.1⟩
  · rw [drawR_length]
    omega
  · show (orderL (topoX n g 0 6).2).length ≤ 60
    rw [orderL_length]
    have h2 : (topoN n g 0 6 - 1).toNat ≤ 5 := by omega
    have h3 : (topoN n g 0 6 - 1).toNat * ((topoN n g 0 6 - 1).toNat + 1) ≤ 5 * 6 := Nat.mul_le_mul h2 (by omega)
    show (bLoop n g (topoCost n g 0) (topoN n g 0 6 - 1).toNat (rawA n (rawA n 0), [])).2.length ≤ 60
    simp only [List.length_nil] at hlen
    omega
  · have := (hid x).1 hx
    omega
  · exact ⟨(hmem l hl).1.ca, (hmem l hl).1.cb⟩
  · exact (hmem l hl).1.cap
  · have h1 := hmem l hl
    have h2 := h1.1.a1
    have h3 := h1.1.ab
    rw [there_iff hasc, there_iff hasc, hid, hid]
    omega
  · exact (hmem l hl).1.ab
theorem draw_ok (n : Nat) (g : Get) : okB (drawR n g) (drawL n g) = true := ok_of_vt (draw_vt n g)
theorem read_e1 {R : List (Int × Bool)} {L : List Lk} (h : okB R L = true) (c : Chg) : (readV R L c).e ≠ 1 := by
  have ha : (applyV R L c).2.2 ≠ 1 := by
    unfold applyV
    rw [if_neg (by rw [h]; simp)]
    repeat' split
    all_goals simp
  unfold readV
  by_cases h1 : ((applyV R L c).2.2 != 0) = true
  · rw [if_pos h1]
    exact ha
  rw [if_neg h1]
  by_cases h2 : (if (chV R L c).up = true then (chV R L c).dn else false) = true
  · rw [if_pos h2]
    simp
  rw [if_neg h2]
  by_cases h3 : (chV R L c).dn = true
  · rw [if_pos h3]
    simp
  · rw [if_neg h3]
    simp
end Go.Proofs.Ytahhejlpmacloaa
