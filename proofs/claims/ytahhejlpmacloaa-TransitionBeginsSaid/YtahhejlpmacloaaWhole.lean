/- The law TransitionBegins answers true whatever the tape that comes in, and its slice of ints reads behind the call as it read before: no condition. -/
import Derived.Test.YtahhejlpmacloaaPart23
import Derived.Test.YtahhejlpmacloaaRows
import Derived.WalkKit
import Derived.ProofKit
import Derived.OpenShut
import Derived.ShutString
import Derived.ChangeOld
import Derived.Below
/- Plain laws: the order by ranks takes every router once, and every step of it is allowed. -/
namespace Go.Proofs.Ytahhejlpmacloaa
open Go Go.Eng

/-! ### who waits for whom: routers of the topology -/
theorem behind_ids {R : List (Int × Bool)} {L : List Lk} {H : List (Int × Int)} (hok : okB R L = true) : ∀ x y, y ∈ (bhV R L H).G [x] → x ∈ ids R ∧ y ∈ ids R := by
  have hv := vt_of_ok hok
  have inv : (fun s : BhS => ∀ x y, y ∈ s.G [x] → x ∈ ids R ∧ y ∈ ids R) (bhV R L H) := by
    refine fold_inv (fun s : BhS => ∀ x y, y ∈ s.G [x] → x ∈ ids R ∧ y ∈ ids R) (fun s p hp hs => ?_) (fun x y hy => by cases hy)
    unfold bhH
    split
    · refine fold_inv (fun s : BhS => ∀ x y, y ∈ s.G [x] → x ∈ ids R ∧ y ∈ ids R) (fun s r _ hs => ?_) hs
      refine fold_inv (fun s : BhS => ∀ x y, y ∈ s.G [x] → x ∈ ids R ∧ y ∈ ids R) (fun s l hl hs => ?_) hs
      refine fold_inv (fun s : BhS => ∀ x y, y ∈ s.G [x] → x ∈ ids R ∧ y ∈ ids R) (fun s e he hs => ?_) hs
      unfold bhStep
      split
      · have hed := edge_ids hv (tris_edge hl e he)
        intro x y hy
        have hy2 : y ∈ (if ([x] : List Int) = [e.x] then s.G [e.x] ++ [e.y] else s.G [x]) := hy
        by_cases hk : ([x] : List Int) = [e.x]
        · rw [if_pos hk] at hy2
          injection hk with hk
          subst hk
          rcases List.mem_append.1 hy2 with hy2 | hy2
          · exact hs _ _ hy2
          · rw [List.mem_singleton.1 hy2]
            exact ⟨hed.1, hed.2.1⟩
        · rw [if_neg hk] at hy2
          exact hs x y hy2
      · exact hs
    · exact hs
  exact inv
theorem apply_R {R : List (Int × Bool)} {L : List Lk} {c : Chg} (h : (applyV R L c).2.2 = 0) : (applyV R L c).1 = R := by
  revert h
  unfold applyV
  repeat' split
  all_goals simp
theorem read_R {R : List (Int × Bool)} {L : List Lk} {c : Chg} (h : (readV R L c).e = 0) : (readV R L c).R = R := by
  revert h
  unfold readV
  by_cases h1 : ((applyV R L c).2.2 != 0) = true
  · rw [if_pos h1]
    intro h
    have h : (applyV R L c).2.2 = 0 := h
    rw [h] at h1
    cases h1
  rw [if_neg h1]
  by_cases h2 : (if (chV R L c).up = true then (chV R L c).dn else false) = true
  · rw [if_pos h2]
    intro h
    cases h
  rw [if_neg h2]
  by_cases h3 : (chV R L c).dn = true
  · rw [if_pos h3]
    intro _
    exact apply_R (by simpa using h1)
  · rw [if_neg h3]
    exact fun _ => rfl
theorem ahead_ids {R : List (Int × Bool)} {L : List Lk} {c : Chg} (he : (readV R L c).e = 0) : ∀ x y, y ∈ aheadC R L c [x] → x ∈ ids R ∧ y ∈ ids R := by
  have hR := read_R he
  unfold aheadC
  generalize readV R L c = rd at hR ⊢
  have key : ∀ x y, y ∈ (bhV rd.R rd.L rd.dirs).G [x] → x ∈ ids R ∧ y ∈ ids R := by
    rw [← hR]
    cases hok : okB rd.R rd.L with
    | true => exact behind_ids hok
    | false =>
      rw [behind_none rd.dirs hok]
      exact fun x y hy => by cases hy
  intro x y hy
  split at hy
  · exact (key y x (turnC_mem.1 hy).2).symm
  · exact key x y hy

/-! ### heights are small -/
theorem hgt_below {G : RowsI} {S : List Int} {f : Int → Int} {p : Int → Nat} (hp : Pot G p) (hf : IsHgt G f) (hS : ∀ x y, y ∈ G [x] → x ∈ S ∧ y ∈ S) : ∀ (n : Nat) (x : Int), p x < n → x ∈ S → ∀ v, 0 ≤ v → v ≤ f x → ∃ y ∈ S, f y = v
  | 0, x, hn, _, _, _, _ => by omega
  | n + 1, x, hn, hx, v, h0, hv => by
    by_cases he : v = f x
    · exact ⟨x, hx, he.symm⟩
    have hlt : v < f x := by omega
    have hfx := hf x
    rcases (foldl_max ((G [x]).map fun y => 1 + f y) 0).2.2 with h | h
    · have : f x = 0 := hfx.trans h
      omega
    · have h : maxL ((G [x]).map fun y => 1 + f y) ∈ (G [x]).map fun y => 1 + f y := h
      rw [← hfx] at h
      obtain ⟨y, hy, hye⟩ := List.mem_map.1 h
      have hpy := hp.2 x y hy
      exact hgt_below hp hf hS n y (by omega) (hS x y hy).2 v h0 (by omega)
theorem hgt_lt {G : RowsI} {S : List Int} {f : Int → Int} {p : Int → Nat} (hp : Pot G p) (hf : IsHgt G f) (hS : ∀ x y, y ∈ G [x] → x ∈ S ∧ y ∈ S) {x : Int} (hx : x ∈ S) : 0 ≤ f x ∧ f x < S.length := by
  have h0 : 0 ≤ f x := (hgt_le hp hf (p x) x (Nat.le_refl _)).1
  refine ⟨h0, ?_⟩
  have h1 := nodup_leI (l := (List.range ((f x).toNat + 1)).map fun i : Nat => (i : Int)) (l' := S.map f) (by
    refine List.Pairwise.map (R := fun a b : Nat => a < b) _ (fun a b h => ?_) List.pairwise_lt_range
    omega) (fun v hv => by
    obtain ⟨i, hi, rfl⟩ := List.mem_map.1 hv
    have := List.mem_range.1 hi
    obtain ⟨y, hy, he⟩ := hgt_below hp hf hS (p x + 1) x (by omega) hx i (by omega) (by omega)
    exact List.mem_map.2 ⟨y, hy, he⟩)
  simp only [List.length_map, List.length_range] at h1
  omega

/-! ### rows by rank, laid end to end -/
structure RowsBy (S : List Int) (f : Int → Int) (F : RowsI) : Prop where
  nd : ∀ i : Nat, (F [(i : Int)]).Nodup
  mem : ∀ (i : Nat) x, x ∈ F [(i : Int)] ↔ x ∈ S ∧ f x = i
theorem flat_mem {S : List Int} {f : Int → Int} {F : RowsI} (h : RowsBy S f F) (hf : ∀ x ∈ S, 0 ≤ f x) (i : Nat) (x : Int) : x ∈ flatN F i ↔ x ∈ S ∧ f x < i := by
  unfold flatN
  rw [List.mem_flatMap]
  constructor
  · rintro ⟨j, hj, hx⟩
    have h1 := List.mem_range.1 hj
    have h2 := (h.mem j x).1 hx
    exact ⟨h2.1, by omega⟩
  · rintro ⟨hx, hlt⟩
    have h0 := hf x hx
    exact ⟨(f x).toNat, List.mem_range.2 (by omega), (h.mem _ x).2 ⟨hx, by omega⟩⟩
theorem flat_nd {S : List Int} {f : Int → Int} {F : RowsI} (h : RowsBy S f F) (hf : ∀ x ∈ S, 0 ≤ f x) : ∀ i, (flatN F i).Nodup
  | 0 => List.nodup_nil
  | i + 1 => by
    rw [flatN_succ, List.nodup_append]
    refine ⟨flat_nd h hf i, h.nd i, fun a ha b hb hab => ?_⟩
    subst hab
    have h1 := ((flat_mem h hf i a).1 ha).2
    have h2 := ((h.mem i a).1 hb).2
    omega
theorem take_new {l : List Int} (h : l.Nodup) {k : Nat} (hk : k < l.length) : l.getD k 0 ∉ l.take k := by
  intro hm
  rw [List.getD_eq_getElem?_getD, List.getElem?_eq_getElem hk, Option.getD_some] at hm
  obtain ⟨i, hi, he⟩ := List.getElem_of_mem hm
  rw [List.length_take] at hi
  rw [List.getElem_take] at he
  have := (List.getElem_inj h).1 he
  omega
theorem getD_in {l : List Int} {k : Nat} (hk : k < l.length) : l.getD k 0 ∈ l := by
  rw [List.getD_eq_getElem?_getD, List.getElem?_eq_getElem hk, Option.getD_some]
  exact List.getElem_mem hk

/-! ### the rows of Order -/
theorem gr_max : ∀ (l : List (Int × Int)) (m : Int), m ≤ l.foldl grStep m ∧ ∀ e ∈ l, e.2 ≤ 24 → e.2 ≤ l.foldl grStep m
  | [], m => ⟨Int.le_refl _, fun e he => by cases he⟩
  | x :: l, m => by
    have ih := gr_max l (grStep m x)
    have hm : m ≤ grStep m x := by
      unfold grStep
      split
      · omega
      · exact Int.le_refl _
    refine ⟨Int.le_trans hm ih.1, fun e he h24 => ?_⟩
    rcases List.mem_cons.1 he with rfl | he
    · refine Int.le_trans ?_ ih.1
      unfold grStep
      rw [if_pos (decide_eq_true h24)]
      omega
    · exact ih.2 e he h24
theorem gr_sup {b : Int} : ∀ (l : List (Int × Int)) (m : Int), m ≤ b → (∀ e ∈ l, e.2 ≤ b) → l.foldl grStep m ≤ b
  | [], _, h, _ => h
  | x :: l, m, h, hl => by
    refine gr_sup l _ ?_ (fun e he => hl e (List.mem_cons_of_mem _ he))
    have := hl x List.mem_cons_self
    unfold grStep
    split
    · omega
    · exact h
theorem ordF_mem {gt : Int} {r x : Int} (hr : 0 ≤ r ∧ r ≤ gt) : ∀ (l : List (Int × Int)) (F : RowsI), x ∈ l.foldl (ordStep gt) F [r] ↔ x ∈ F [r] ∨ (x, r) ∈ l
  | [], F => by simp
  | e :: l, F => by
    rw [List.foldl_cons, ordF_mem hr l, List.mem_cons]
    have hst : x ∈ ordStep gt F e [r] ↔ x ∈ F [r] ∨ (x, r) = e := by
      unfold ordStep
      by_cases he : e.2 = r
      · have h1 : (if decide (e.2 ≥ 0) = true then decide (e.2 ≤ gt) else false) = true := by
          rw [if_pos (by simp; omega)]
          simp
          omega
        rw [if_pos h1]
        show x ∈ (if ([r] : List Int) = [e.2] then F [e.2] ++ [e.1] else F [r]) ↔ _
        rw [if_pos (by rw [he]), List.mem_append, List.mem_singleton, he]
        obtain ⟨e1, e2⟩ := e
        have he : e2 = r := he
        subst he
        simp
      · have hne : (x, r) ≠ e := by
          rintro rfl
          exact he rfl
        have h2 : (if (if decide (e.2 ≥ 0) = true then decide (e.2 ≤ gt) else false) = true then addI F [e.2] e.1 else F) [r] = F [r] := by
          generalize (if decide (e.2 ≥ 0) = true then decide (e.2 ≤ gt) else false) = t
          cases t with
          | true =>
            show (if ([r] : List Int) = [e.2] then F [e.2] ++ [e.1] else F [r]) = F [r]
            rw [if_neg (by intro h; injection h with h; exact he h.symm)]
          | false => rfl
        rw [h2]
        simp [hne]
    rw [hst]
    exact ⟨fun h => by rcases h with (h | h) | h <;> simp [h], fun h => by rcases h with h | h | h <;> simp [h]⟩
theorem sortR_perm (F : RowsI) (m : Nat) (i : Nat) : (sortR F m [(i : Int)]).Perm (F [(i : Int)]) := by
  unfold sortR
  dsimp only
  split
  · exact sortL_perm _ _ _
  · exact .refl _

theorem law_plain {R : List (Int × Bool)} {L : List Lk} {c : Chg} (hok : okB R L = true) (hR : R.length ≤ 6) : LawP R L c := by
  have hv := vt_of_ok hok
  obtain ⟨p, hp⟩ := rank_ok R L c
  have hnd : (ids R).Nodup := hv.asc.imp (fun {a b} h => by omega)
  have hidl : (ids R).length = R.length := by simp [ids]
  have main : (readV R L c).e = 0 → ∃ (f : Int → Int), ranksV R L c = (ids R).map (fun x => (x, f x)) ∧ (∀ x ∈ ids R, 0 ≤ f x ∧ f x < 6) ∧ RowsBy (ids R) f (ordFV (ranksV R L c)) ∧ (∀ x ∈ ids R, f x < ordM (ranksV R L c)) ∧ ordM (ranksV R L c) ≤ 25 := by
    intro he
    refine ⟨hgtC (aheadC R L c), ?_, ?_⟩
    · unfold ranksV
      rw [if_neg (by rw [he]; simp)]
    have hl : ranksV R L c = (ids R).map fun x => (x, hgtC (aheadC R L c) x) := by
      unfold ranksV
      rw [if_neg (by rw [he]; simp)]
    have hf := hgtC_is hp
    have hS := ahead_ids he
    have hlt : ∀ x ∈ ids R, 0 ≤ hgtC (aheadC R L c) x ∧ hgtC (aheadC R L c) x < 6 := fun x hx => by
      have := hgt_lt hp hf hS hx
      omega
    generalize hgtC (aheadC R L c) = f at hl hlt ⊢
    generalize ranksV R L c = l at hl ⊢
    have hmem : ∀ x r, (x, r) ∈ l ↔ x ∈ ids R ∧ f x = r := by
      intro x r
      rw [hl, List.mem_map]
      constructor
      · rintro ⟨y, hy, h⟩
        injection h with h1 h2
        subst h1
        exact ⟨hy, h2⟩
      · rintro ⟨hx, h⟩
        exact ⟨x, hx, by rw [h]⟩
    have hle : ∀ e ∈ l, 0 ≤ e.2 ∧ e.2 < 6 := by
      intro e he
      have := (hmem e.1 e.2).1 he
      have h2 := hlt e.1 this.1
      omega
    have hgr := gr_max l (-1)
    have hgu : greatV l ≤ 5 := gr_sup l (-1) (by omega) (fun e he => by have := hle e he; omega)
    have hgr0 : -1 ≤ greatV l := hgr.1
    have hrows := ordF_rows (gt := greatV l) l [] (fun _ => []) (by rw [List.nil_append, hl, List.map_map]; simpa [Function.comp_def] using hnd) (fun k => ⟨List.nodup_nil, fun y hy => (List.not_mem_nil hy).elim, Nat.le_refl _⟩)
    have hfm : ∀ x ∈ ids R, f x ≤ greatV l := fun x hx => hgr.2 (x, f x) ((hmem x (f x)).2 ⟨hx, rfl⟩) (by have := hlt x hx; dsimp only; omega)
    refine ⟨hlt, ⟨fun i => ?_, fun i x => ?_⟩, fun x hx => ?_, ?_⟩
    · exact (sortR_perm _ _ _).nodup_iff.2 (hrows [(i : Int)]).1
    · have h1 : x ∈ ordFV l [(i : Int)] ↔ x ∈ ordF (greatV l) l [(i : Int)] := (sortR_perm _ _ _).mem_iff
      rw [h1]
      by_cases hi : (i : Int) ≤ greatV l
      · have h2 := ordF_mem (gt := greatV l) (r := (i : Int)) (x := x) ⟨by omega, hi⟩ l (fun _ => [])
        unfold ordF
        rw [h2, hmem]
        simp
      · constructor
        · intro hx
          exfalso
          have none_ : ∀ (gt : Int) (l : List (Int × Int)) (F : RowsI), ¬ (i : Int) ≤ gt → F [(i : Int)] = [] → l.foldl (ordStep gt) F [(i : Int)] = [] := by
            intro gt l
            induction l with
            | nil => exact fun F _ h => h
            | cons e l ih =>
              intro F hg h
              rw [List.foldl_cons]
              refine ih _ hg ?_
              unfold ordStep
              by_cases hc : (if decide (e.2 ≥ 0) = true then decide (e.2 ≤ gt) else false) = true
              · rw [if_pos hc]
                show (if ([(i : Int)] : List Int) = [e.2] then F [e.2] ++ [e.1] else F [(i : Int)]) = []
                have hc2 : e.2 ≤ gt := by
                  by_cases h5 : e.2 ≥ 0
                  · rw [if_pos (decide_eq_true h5)] at hc
                    exact of_decide_eq_true hc
                  · rw [if_neg (by simpa using h5)] at hc
                    cases hc
                rw [if_neg (by intro h6; injection h6 with h6; omega)]
                exact h
              · rw [if_neg hc]
                exact h
          have h3 : ordF (greatV l) l [(i : Int)] = [] := none_ (greatV l) l (fun _ => []) hi rfl
          rw [h3] at hx
          cases hx
        · rintro ⟨hx, h⟩
          have := hfm x hx
          omega
    · have := hfm x hx
      unfold ordM
      omega
    · unfold ordM
      omega
  refine ⟨read_e1 hok c, fun he => ?_, fun he => ?_, fun he i hi k hk => ?_, fun he i hi k hk => ?_, fun he => ?_⟩
  all_goals obtain ⟨f, hl, hlt, hrb, hfm, h25⟩ := main he
  all_goals have h0 : ∀ x ∈ ids R, 0 ≤ f x := fun x hx => (hlt x hx).1
  · rw [hl, List.map_map]
    simpa [Function.comp_def] using hnd
  · refine ⟨by rw [hl]; simp; omega, h25, fun i => ?_, fun i hi => ?_⟩
    · have := nodup_leI (hrb.nd i) (fun x hx => ((hrb.mem i x).1 hx).1)
      omega
    · have := nodup_leI (flat_nd hrb h0 i) (fun x hx => ((flat_mem hrb h0 i x).1 hx).1)
      omega
  · intro hm
    rcases List.mem_append.1 hm with hm | hm
    · have h1 := ((flat_mem hrb h0 i _).1 hm).2
      have h2 := ((hrb.mem i _).1 (getD_in hk)).2
      omega
    · exact take_new (hrb.nd i) hk hm
  · refine allowed_true fun a ha b hb => ?_
    have hst : ∀ j, j < (ranksV R L c).length → (stAt (ranksV R L c) j).1 ∈ ids R ∧ (stAt (ranksV R L c) j).2 = f (stAt (ranksV R L c) j).1 := by
      intro j hj
      have hm : stAt (ranksV R L c) j ∈ ranksV R L c := by
        rw [show stAt (ranksV R L c) j = (ranksV R L c)[j] from by simp [stAt, hj]]
        exact List.getElem_mem hj
      generalize stAt (ranksV R L c) j = e at hm ⊢
      rw [hl] at hm
      obtain ⟨x, hx, rfl⟩ := List.mem_map.1 hm
      exact ⟨hx, rfl⟩
    have h1 := hst a ha
    have h2 := hst b hb
    unfold badP
    by_cases hb : (stAt (ranksV R L c) b).1 ∈ flatN (ordFV (ranksV R L c)) i ++ (ordFV (ranksV R L c) [(i : Int)]).take (k + 1)
    · by_cases hr : (stAt (ranksV R L c) a).2 < (stAt (ranksV R L c) b).2
      · have hle : f (stAt (ranksV R L c) b).1 ≤ i := by
          rcases List.mem_append.1 hb with hb | hb
          · have := ((flat_mem hrb h0 i _).1 hb).2
            omega
          · have := ((hrb.mem i _).1 (List.mem_of_mem_take hb)).2
            omega
        have hin : (stAt (ranksV R L c) a).1 ∈ flatN (ordFV (ranksV R L c)) i ++ (ordFV (ranksV R L c) [(i : Int)]).take (k + 1) :=
          List.mem_append_left _ ((flat_mem hrb h0 i _).2 ⟨h1.1, by omega⟩)
        simp [hin]
      · simp [hr]
    · simp [hb]
  · have h1 := nodup_leI (flat_nd hrb h0 (ordM (ranksV R L c))) (fun x hx => ((flat_mem hrb h0 _ x).1 hx).1)
    have h2 := nodup_leI hnd (fun x hx => (flat_mem hrb h0 (ordM (ranksV R L c)) x).2 ⟨hx, hfm x hx⟩)
    omega
theorem law_drawn (n : Nat) (g : Get) : LawP (drawR n g) (drawL n g) (drawC n g) := by
  refine law_plain (draw_ok n g) ?_
  have := drawN_in n g
  rw [drawR_length]
  omega
end Go.Proofs.Ytahhejlpmacloaa

namespace Go.Proofs.Ytahhejlpmacloaa
open Go Go.Eng Go.ChangeShapes Go.WideShapes Go.ChangeAt Go.RowKit
open Go.ChangeMaps (open_string shut_string)

theorem own : ownKnob Try.prog.godebug = none := by kernel_rfl
theorem laidOut : laidOutB Try.prog = true := by kernel_rfl

/-- A slice of ints that came in: nil, or a row of cells. -/
def IsRow (k : IntKind) (w : World) (a : Option Addr) (len cap : Nat) (zs : List Int) : Prop :=
  (a = none ∧ len = 0 ∧ cap = 0 ∧ zs = []) ∨
  ∃ x, a = some x ∧ len ≤ cap ∧ cap ≤ maxLen ∧ zs.length = cap ∧ (∀ i, i < zs.length → w.cell? (x.add i) = some (.int k (zs.getD i 0))) ∧ ∀ n ∈ zs, (Lit.int k n).wf = true

/-! ### the walk, told as the row wants it -/
theorem cell_lt {w : World} {b o : Nat} {x : Value} (h : w.cell? ⟨b, o, none⟩ = some x) : b < w.heap.size := by
  unfold World.cell? at h
  rcases Nat.lt_or_ge b w.heap.size with g | g
  · exact g
  · have : w.heap[b]? = none := Array.getElem?_eq_none g
    simp [this] at h
theorem walk (a0 : Option Addr) (len0 cap0 : Nat) (z0 : List Int) (w : World) (w0 : IsRow .i64 w a0 len0 cap0 z0) :
    Calls Try.prog 3 #[.slice a0 len0 cap0] w fun e w' => e = .returned (.bool true) ∧ Below w.heap.size w w' := by
  have h := law_holds [.one (.c (.sl len0 1 (inG z0)))] [] _ rfl ⟨inG_ok _ _, law_drawn _ _, trivial⟩ w (fun b => b < w.heap.size) (fun _ => none) [.slice a0 len0 cap0]
    ⟨⟨rfl, rfl, rfl, Nat.le_refl _, fun _ _ _ => rfl⟩, fun b hb => hb, fun b hb => .inl hb, fun b hb => hb, fun m r hl => by simp [idxMem, Eng.look] at hl, fun m b hO => by obtain ⟨r, v, h1, _⟩ := hO; simp [idxMem, Eng.look] at h1, fun m m' b hO => by obtain ⟨r, v, h1, _⟩ := hO; simp [idxMem, Eng.look] at h1⟩
    ⟨_, _, rfl, ?_, rfl⟩ (fun _ _ => rfl)
  · refine h.mono fun e w' ⟨u, S', μ', he, _, hw, hv, _⟩ => ?_
    obtain ⟨hu, _⟩ := hv
    subst hu
    exact ⟨he, ⟨hw.grow.os, hw.grow.tape, hw.grow.output, hw.grow.size, fun k hk => hw.grow.block k hk (by rintro ⟨j, v, hj, _⟩; cases hj)⟩⟩
  · rcases w0 with ⟨rfl, rfl, rfl, rfl⟩ | ⟨x, rfl, hl, hm, hz, hcell, hwz⟩
    · exact ⟨none, 0, rfl, Nat.le_refl _, Nat.zero_le _, fun h => absurd h (Nat.lt_irrefl _)⟩
    · refine ⟨some x, cap0, rfl, hl, hm, fun hn => ?_⟩
      obtain ⟨b, off, rfl, hc⟩ := Go.ints_at hcell (by omega)
      refine ⟨b, off, rfl, cell_lt (hc 0 (by omega)), fun i hi j hj => ?_⟩
      obtain rfl : j = 0 := by omega
      refine ⟨_, by rw [show off + i * 1 + 0 = off + i from by omega]; exact hc i (by omega), rfl, rfl⟩

/-! ### the row -/
set_option maxRecDepth 100000 in
theorem lifted (os : Os) (started : os.Started) (H : Type) (enc : TypeId × Value → H) :
    ReturnsInHanded {} Try.checked os 3 .any (Rows.transitionBeginsSpec.pre6 enc Try.prog Try.f3 Rows.transitionBeginsRow.domain false) (Rows.transitionBeginsSpec.post enc Try.prog Try.f3 false true false false) := by
  refine returnsInHanded_of_change (C := Try.checked) own started (by kernel_rfl) Try.func3
    (ChangeSpec.witness6 (enc := enc) (C := Try.checked) false ⟨#[], #[.slice none 0 0], []⟩ 8 (by kernel_rfl) (by kernel_rfl) (by kernel_rfl) (by kernel_rfl)) ?_
  intro W base args ds gs before hval0 hW hcnd _
  have hval : ∀ (j : Nat) t v, Try.f3.params[j]? = some t → args[j]? = some v → Value.okWide Try.prog W .any base t v := hval0
  have hW' := hW
  obtain ⟨p, q, hA0, hV, rfl, hfz, hnd⟩ := hW
  have hA : DataW.TrodAll enc Try.prog W 0 (fun _ => true) true Try.f3.params.toList args.toList ds p := hA0
  rw [Try.params3] at hA hval
  obtain ⟨v0, vs0, d0, ds0, p0, q0, hargs, rfl, rfl, h0, r0⟩ := trodAll_cons hA
  obtain ⟨rfl, rfl, rfl⟩ := trodAll_nil r0
  obtain rfl : args = #[v0] := by cases args; simp_all
  obtain ⟨rfl, rfl⟩ := trodVars_none hV
  obtain ⟨a0, len0, cap0, rfl⟩ := okWide_slice Try.underlying22 (hval 0 22 v0 rfl rfl)
  have k0 := h0
  have lt0 : ∀ x ∈ p0, x.block < W.heap.size := by obtain ⟨m, hm⟩ := k0; exact DataW.trod_lt m _ _ _ hm
  obtain ⟨z0, w0⟩ : ∃ zs, IsRow .i64 W a0 len0 cap0 zs := by
    obtain ⟨fuel, hf⟩ := h0
    rcases open_ints Try.underlying22 Try.underlying3 (by kernel_rfl) hf with ⟨hcs, _⟩ | ⟨x, l, c, zs, hcs, _, hl, hm, hz, _, hcell, hwz⟩
    · simp [Value.cells] at hcs
      obtain ⟨rfl, rfl, rfl⟩ := hcs
      exact ⟨[], .inl ⟨rfl, rfl, rfl, rfl⟩⟩
    · simp [Value.cells] at hcs
      obtain ⟨rfl, rfl, rfl⟩ := hcs
      exact ⟨zs, .inr ⟨_, rfl, hl, hm, by simpa using hz, hcell, hwz⟩⟩
  clear hA0 hval0
  refine (walk a0 len0 cap0 z0 W w0).mono fun e W' ⟨he, bel⟩ => ?_
  subst he
  exact ⟨_, rfl, _, _, _, [], _, [], hW', trodAll_mk1 (shut_bool Try.underlying4 _), (trodAll_cons_mk (Below.trod laidOut (by kernel_rfl) (of_decide_eq_true (by kernel_rfl)) k0 bel lt0) trodAll_mk0), rfl, bel.frame _, fun h => by cases h⟩

theorem over : Rows.transitionBeginsRow.holds Try.pinned (OpenSpec.ofChange Rows.transitionBeginsSpec) :=
  OpenClaim.holds_of_wide 3 Try.f3 rfl rfl rfl rfl rfl rfl rfl ⟨rfl, rfl, rfl, rfl, rfl⟩ rfl rfl rfl rfl rfl (by kernel_rfl) Try.func3 (by kernel_rfl)
    (of_decide_eq_true (by kernel_rfl)) (by unfold Func.isWrapper; first | (rw [if_pos (by decide +kernel)]; kernel_rfl) | (rw [if_neg (by decide +kernel)]; exact ⟨rfl, rfl⟩))
    (fun os started H enc _ => lifted os started H enc)

/-- The given statement. -/
theorem transitionBegins_holds : Rows.TransitionBeginsSaid := over
#print axioms transitionBegins_holds
end Go.Proofs.Ytahhejlpmacloaa
