/- The walk of slices.Delete at links. -/
import Derived.Test.YtahhejlpmacloaaPart18
import Derived.WalkKit
import Derived.Deep.RegionLaw
import Derived.Lib.SliceRun
import Derived.Lib.AppendZerosOnto
import Derived.Lib.Overlaps
import Derived.Laws.Externs
import Derived.Laws.Cover3
namespace Go.Proofs.Ytahhejlpmacloaa
open Go Go.Eng Go.RowKit Go.Lib

/-- An append whose run is known, as one step of a region that draws. -/
theorem step_append_runI {P : Program} {ops : Array Oper} {o : Oper} {a : Act} {w : World} {K : Act → World → Prop} {Q : Exit → Act → World → Prop} {E : Prop}
    (hg : o.guard = none) (d x : Operand) (dT sT : TypeId) (hop : o.op = Op.call { callee := Callee.builtin Builtin.append, args := #[d, x], argTypes := #[dT, sT] })
    (v u : Value) (hd : a.eval d = v) (hx : a.eval x = u) {v' : Value} {w' : World} (hr : (Builtin.append_ #[dT, sT] o.type #[v, u]).run P w = .ok v' w') (hK : K (a.put o.dst v') w') :
    if Region.wanted o (yielded ops a.tmps) = true then Oper.wp P o a w K Q else E := by
  have hw : Region.wanted o (yielded ops a.tmps) = true := by simp [Region.wanted, hg]
  rw [if_pos hw]
  unfold Oper.wp
  simp [execOp, hop, resolve, invoke, builtin, hd, hx, hr, Result.andThen]
  exact hK

theorem u26 : Try.prog.underlying 26 = some (.slice 52) := (hT 26 _ rfl).1
theorem u3 : Try.prog.underlying 3 = some (.int .i64) := (hT 3 _ rfl).1

set_option maxHeartbeats 4000000 in
set_option maxRecDepth 1000000 in
theorem del_walk (g n cap i j : Nat) (W1 W2 : World) (A : Addr) (w : World) (hij : i < j) (hj : j ≤ n) (hn : n ≤ cap) (hm : cap ≤ 9223372036854775807)
    (hA : (if cap = j then some (⟨g, 0, none⟩ : Addr) else some ⟨g, j * 5, none⟩) = some A)
    (happ : ∀ ty, (Builtin.append_ #[26, 26] ty #[.slice (some ⟨g, 0, none⟩) i cap, .slice (some A) (n - j) (cap - j)]).run Try.prog w.drew = .ok (.slice (some ⟨g, 0, none⟩) (i + (n - j)) cap) W1)
    (hcl : ∀ ty, (Builtin.clear_ #[26] ty #[.slice (some ⟨g, (i + (n - j)) * 5, none⟩) (n - (i + (n - j))) (cap - (i + (n - j)))]).run Try.prog W1 = .ok (.tuple #[]) W2) :
    Calls Try.prog 42 #[.slice (some ⟨g, 0, none⟩) n cap, .int .i64 i, .int .i64 j] w fun e w' => e = .returned (.slice (some ⟨g, 0, none⟩) (i + (n - j)) cap) ∧ w' = W2 := by
  have hic : i ≤ cap := by omega
  have hjc : j ≤ cap := by omega
  go_enter Try.func42, (show Try.f42.ntmps = 33 from rfl)
  go_wp2_with fail
  go_region_law (refine step_append_runI rfl (.tmp 22) (.tmp 25) 26 26 rfl (.slice (some ⟨g, 0, none⟩) i cap) (.slice (some A) (n - j) (cap - j)) (by simp [Act.eval, Act.put]) (by simp [Act.eval, Act.put]) (happ _) ?_)
  go_wp2
  go_ret
  exact ⟨rfl, rfl⟩

/-- clear of a stretch of a row. -/
theorem run_clear_row {P : Program} {t ty e : Nat} {te : TyI} (ht : P.underlying t = some (.slice e)) (hte : TOK P e te) {sz : Nat} (hzl : te.zero.length = sz) (hz1 : ∀ v ∈ te.zero, v.oneCell' = true)
    (w : World) (g o m c : Nat) (cur : Array Value) (hg : w.heap[g]? = some (.cells cur e (0, 0))) (hfit : o + m * sz ≤ cur.size) :
    ∃ zs : List Value, zs.length = m * sz ∧ (Builtin.clear_ #[t] ty #[.slice (some ⟨g, o, none⟩) m c]).run P w = .ok (.tuple #[]) (w.setRow g (cur.toList.take o ++ zs ++ cur.toList.drop (o + m * sz)).toArray) := by
  obtain ⟨_, i, z, hi, hs, hb, hz, hzc, _⟩ := hte
  cases m with
  | zero =>
    refine ⟨[], by simp, ?_⟩
    have : (cur.toList.take o ++ [] ++ cur.toList.drop (o + 0 * sz)).toArray = cur := by simp
    rw [this, setRow_self w g cur e (0, 0) hg]
    simp [Builtin.clear_, run_underlying ht]
  | succ m =>
    have hl : (Builtin.zeroCells z.cells (m + 1)).toList.length = (m + 1) * sz := by
      rw [Array.length_toList, size_zeroCells, hzc]
      simp [hzl]
    refine ⟨(Builtin.zeroCells z.cells (m + 1)).toList, hl, ?_⟩
    have h1 : ∀ v ∈ (Builtin.zeroCells z.cells (m + 1)).toList, v.oneCell' = true := by
      intro v hv
      have hsz : 0 < z.cells.size := by
        rcases Nat.eq_zero_or_pos z.cells.size with h | h
        · have : (Builtin.zeroCells z.cells (m + 1)).toList.length = 0 := by rw [Array.length_toList, size_zeroCells, h]; simp
          have := List.length_pos_of_mem hv
          omega
        · exact h
      rw [Builtin.zeroCells, Array.toList_map] at hv
      obtain ⟨q, _, rfl⟩ := List.mem_map.1 hv
      refine hz1 _ ?_
      rw [hzc]
      simp only [List.getElem!_toArray]
      rw [getElem!_pos _ _ (by rw [hzc] at hsz; simpa using Nat.mod_lt _ (by simpa using hsz))]
      exact List.getElem_mem _
    have hst := run_storeCells_at P g o e _ 0 cur w hg (by rw [hl]; simpa using hfit) h1
    simp only [Nat.add_zero] at hst
    rw [hl] at hst
    have hv : (zeroValue e).run P w = .ok z w := by simp [zeroValue, typeInfo, hi, hz]
    simp [Builtin.clear_, run_underlying ht, hv, hst]

def delG (g : Get) (i j : Nat) : Get := fun a b => if a < i then g a b else g (a + (j - i)) b
def spDel : FSpec
  | [.one (.own 0), .one (.c (.val (.int .i64 i))), .one (.c (.val (.int .i64 j)))], [.row 52 5 n g] =>
    some ⟨[0 ≤ i ∧ i < j ∧ j ≤ (n : Int)], .one (.own 1), [(0, .dead), (1, .row 52 5 (i.toNat + (n - j.toNat)) (delG g i.toNat j.toNat))]⟩
  | _, _ => none
set_option maxHeartbeats 1000000 in
set_option maxRecDepth 10000 in
theorem del_holds : Holds Try.prog 42 spDel := by
  intro args bs out h hc w S μ vs hw hr hμ
  unfold spDel at h
  split at h
  rotate_left
  · cases h
  rename_i i j n g
  simp only [Option.some.injEq] at h
  subst h
  obtain ⟨⟨h0, hij, hjn⟩, _⟩ := hc
  obtain ⟨u, r, rfl, ⟨hmu, _⟩, u2, r2, rfl, ⟨rfl, _⟩, u3, r3, rfl, ⟨rfl, _⟩, rfl⟩ := hr
  obtain ⟨i, rfl⟩ : ∃ k : Nat, i = k := ⟨i.toNat, by omega⟩
  obtain ⟨j, rfl⟩ : ∃ k : Nat, j = k := ⟨j.toNat, by omega⟩
  have hij : i < j := by omega
  have hjn : j ≤ n := by omega
  simp only [Int.toNat_natCast]
  obtain ⟨v, xs, hv, hown, hx⟩ := hw.res 0 _ (show Eng.look (idxMem 0 [Res.row 52 5 n g]) 0 = some (.row 52 5 n g) from rfl)
  rw [hmu] at hv
  injection hv with hv
  subst hv
  have hown0 := hown
  obtain ⟨hxl, hcase⟩ := hown
  rcases hcase with ⟨_, hn0⟩ | ⟨b, cap, cur, rfl, _, hg, hnc, hcm, hcs, htk⟩
  · omega
  have hcm' : cap ≤ 9223372036854775807 := by simpa [maxLen] using hcm
  have hnc5 : n * 5 ≤ cap * 5 := Nat.mul_le_mul_right _ hnc
  have hj5 : j * 5 ≤ n * 5 := Nat.mul_le_mul_right _ hjn
  have hi5 : i * 5 < j * 5 := by omega
  have hcl : cur.toList.length = cap * 5 := by rw [Array.length_toList]; exact hcs
  -- the cells that move
  obtain ⟨news, hnews⟩ : ∃ l, l = xs.drop (j * 5) := ⟨_, rfl⟩
  have hnl : news.length = (n - j) * 5 := by rw [hnews, List.length_drop, hxl, Nat.sub_mul]
  have hcell : ∀ q u, xs[q]? = some u → w.cell? ⟨b, q, none⟩ = some u := by
    intro q u hu
    have := hown0.cells (g := b) rfl q u hu
    rwa [Addr.add_lit, Nat.zero_add] at this
  have hone : ∀ u ∈ xs, u.oneCell' = true := by
    intro u hu
    obtain ⟨q, hq⟩ := List.mem_iff_getElem?.1 hu
    have hlt : q < n * 5 := by rw [← hxl]; exact (List.getElem?_eq_some_iff.1 hq).1
    obtain ⟨x, h1, h2⟩ := hx (q / 5) (by omega) (q % 5) (by omega)
    rw [show q / 5 * 5 + q % 5 = q from by omega, hq] at h1
    injection h1 with h1
    rw [h1]
    exact (rep_one h2).1
  obtain ⟨A, hA, hsrc⟩ : ∃ A : Addr, (if cap = j then some (⟨b, 0, none⟩ : Addr) else some ⟨b, j * 5, none⟩) = some A ∧ ∀ t u, news[t]? = some u → w.drew.cell? (A.add t) = some u := by
    by_cases h : cap = j
    · refine ⟨⟨b, 0, none⟩, by simp [h], fun t u hu => ?_⟩
      have : t < news.length := (List.getElem?_eq_some_iff.1 hu).1
      omega
    · refine ⟨⟨b, j * 5, none⟩, by simp [h], fun t u hu => ?_⟩
      rw [hnews, List.getElem?_drop] at hu
      rw [Addr.add_lit]
      exact hcell _ u hu
  obtain ⟨_, i0, z0, hi0, hs0, hb0, hz0, _⟩ := hT 52 _ rfl
  have hs0 : i0.size = 5 := hs0
  have hgd : w.drew.heap[b]? = some (.cells cur 52 (0, 0)) := hg
  have happ : ∀ ty, _ := fun ty => run_append_room (P := Try.prog) w.drew 26 ty 52 i0 u26 hi0 b i cap cur hgd A (n - j) (cap - j) news (by rw [hs0]; exact hnl) hsrc (fun u hu => hone u (by rw [hnews] at hu; exact List.mem_of_mem_drop hu)) (by omega) (by rw [hs0, hnl, hcs, Nat.sub_mul]; omega)
  rw [hs0] at happ
  obtain ⟨cur1, hcur1⟩ : ∃ c, c = (cur.toList.take (i * 5) ++ news ++ cur.toList.drop (i * 5 + news.length)).toArray := ⟨_, rfl⟩
  rw [← hcur1] at happ
  have hc1l : cur1.size = cap * 5 := by
    rw [hcur1]
    simp only [List.size_toArray, List.length_append, List.length_take, List.length_drop, hcl, hnl, Nat.sub_mul]
    omega
  have hg1 : (w.drew.setRow b cur1).heap[b]? = some (.cells cur1 52 (0, 0)) := setRow_heap _ _ _ _ _ _ hgd
  have hte := hT 52 _ rfl
  obtain ⟨zs, hzl, hclr⟩ : ∃ zs : List Value, zs.length = (n - (i + (n - j))) * 5 ∧ ∀ ty, (Builtin.clear_ #[26] ty #[.slice (some ⟨b, (i + (n - j)) * 5, none⟩) (n - (i + (n - j))) (cap - (i + (n - j)))]).run Try.prog (w.drew.setRow b cur1) = .ok (.tuple #[]) ((w.drew.setRow b cur1).setRow b (cur1.toList.take ((i + (n - j)) * 5) ++ zs ++ cur1.toList.drop ((i + (n - j)) * 5 + (n - (i + (n - j))) * 5)).toArray) := by
    obtain ⟨zs, h1, h2⟩ := run_clear_row (ty := 0) u26 hte (sz := 5) rfl (fun v hv => by simp at hv; rcases hv with rfl | rfl | rfl | rfl | rfl <;> rfl) (w.drew.setRow b cur1) b ((i + (n - j)) * 5) (n - (i + (n - j))) (cap - (i + (n - j))) cur1 hg1 (by rw [hc1l]; omega)
    exact ⟨zs, h1, fun ty => h2⟩
  obtain ⟨cur2, hcur2⟩ : ∃ c, c = (cur1.toList.take ((i + (n - j)) * 5) ++ zs ++ cur1.toList.drop ((i + (n - j)) * 5 + (n - (i + (n - j))) * 5)).toArray := ⟨_, rfl⟩
  rw [← hcur2] at hclr
  have hc1L : cur1.toList.length = cap * 5 := by rw [Array.length_toList]; exact hc1l
  have hc2l : cur2.size = cap * 5 := by
    rw [hcur2]
    simp only [List.size_toArray, List.length_append, List.length_take, List.length_drop, hc1L, hzl]
    omega
  have hg2 : ((w.drew.setRow b cur1).setRow b cur2).heap[b]? = some (.cells cur2 52 (0, 0)) := setRow_heap _ _ _ _ _ _ hg1
  have htake : cur2.toList.take ((i + (n - j)) * 5) = xs.take (i * 5) ++ news := by
    have e1 : cur2.toList.take ((i + (n - j)) * 5) = cur1.toList.take ((i + (n - j)) * 5) := by
      rw [hcur2]
      show ((cur1.toList.take ((i + (n - j)) * 5) ++ zs) ++ cur1.toList.drop _).take _ = _
      rw [List.append_assoc, List.take_append_of_le_length (by rw [List.length_take, hc1L]; omega), List.take_take, Nat.min_self]
    have e2 : (cur.toList.take (i * 5)) = xs.take (i * 5) := by
      rw [← htk, List.take_take, Nat.min_eq_left (by omega)]
    rw [e1, hcur1, ← e2]
    show ((cur.toList.take (i * 5) ++ news) ++ cur.toList.drop _).take _ = _
    have e3 : (i + (n - j)) * 5 = (cur.toList.take (i * 5) ++ news).length := by
      rw [List.length_append, List.length_take, hcl, hnl, Nat.min_eq_left (by omega)]
      omega
    rw [e3, List.take_left]
  refine Calls.mono (del_walk b n cap i j _ _ A w hij hjn hnc hcm' hA happ hclr) ?_
  rintro e w' ⟨rfl, rfl⟩
  have hown' : ((w.drew.setRow b cur1).setRow b cur2).ownsRow 0 52 5 (.slice (some ⟨b, 0, none⟩) (i + (n - j)) cap) (i + (n - j)) (xs.take (i * 5) ++ news) := by
    refine ⟨?_, .inr ⟨b, cap, cur2, rfl, Nat.zero_le _, hg2, by omega, hcm, hc2l, htake⟩⟩
    rw [List.length_append, List.length_take, hxl, hnl]
    omega
  have hgr : w.grownBy ((w.drew.setRow b cur1).setRow b cur2) (some b) := by
    refine ⟨rfl, rfl, rfl, by rw [size_setRow, size_setRow]; exact Nat.le_refl _, fun k hk hne => ?_⟩
    rw [setRow_other _ _ _ _ (by rintro rfl; exact hne rfl), setRow_other _ _ _ _ (by rintro rfl; exact hne rfl)]
    rfl
  obtain ⟨hwn, kp⟩ := hw.appended (m := 0) (d := 1) (get' := delG g i j) (hμ 1 (by simp)) (show Eng.look (idxMem 0 [Res.row 52 5 n g]) 0 = some (.row 52 5 n g) from rfl) hmu hgr hown' (fun a ha c hc => by
    unfold delG
    split
    · rename_i hai
      obtain ⟨x, h1, h2⟩ := hx a (by omega) c hc
      refine ⟨x, ?_, h2⟩
      rw [List.getElem?_append_left (by rw [List.length_take, hxl]; omega), List.getElem?_take, if_pos (by omega)]
      exact h1
    · rename_i hai
      obtain ⟨x, h1, h2⟩ := hx (a + (j - i)) (by omega) c hc
      refine ⟨x, ?_, h2⟩
      rw [List.getElem?_append_right (by rw [List.length_take, hxl]; omega), List.length_take, hxl, hnews, List.getElem?_drop, ← h1]
      congr 1
      omega) (.inl rfl)
  refine ⟨_, S, _, rfl, kp, hwn.same (fun m => ?_), ⟨setμ_same _ _ _, _, _, _, rfl⟩, fun m hm => ?_⟩
  · simp only [look_cons, List.cons_append, List.nil_append, idxMem]
    by_cases h0 : 0 = m
    · subst h0
      simp
    · by_cases h1 : 1 = m
      · subst h1
        simp
      · simp [h0, h1, Eng.look]
  · rw [setμ_ne _ _ (by simp at hm; omega)]
    exact hμ m (by simp at hm ⊢; omega)
end Go.Proofs.Ytahhejlpmacloaa

/- The walk of slices.Insert at links. -/
set_option linter.unusedVariables false
namespace Go.Proofs.Ytahhejlpmacloaa
open Go Go.Eng Go.RowKit Go.Lib

/-- A copy whose run is known, in a plain region, and as one step of a region that draws. -/
theorem wpList_copy_runI {P : Program} (w : World) {ops : Array Oper} {rest : List Oper} {o : Oper} {a : Act} {Q : Exit → Act → World → Prop} (hgd : o.guard = none) (d s : Operand) (t t' : TypeId)
    (ho : o.op = .call { callee := .builtin .copy, args := #[d, s], argTypes := #[t, t'] }) (v u : Value) (hd : a.eval d = v) (hs : a.eval s = u) {v' : Value} {w' : World}
    (hr : (Builtin.copy_ #[t, t'] o.type #[v, u]).run P w = .ok v' w') (h : wpList P ops Q rest (a.put o.dst v') w') : wpList P ops Q (o :: rest) a w :=
  wpList_plain hgd fun _ hK => by
    unfold Oper.wp execOp
    simp only [ho, resolve, invoke, builtin, Sem.run_bind, Sem.run_pure, Result.andThen_ok, List.map_toArray, List.map_cons, List.map_nil, hd, hs, hr]
    exact hK _ _ h
theorem step_copy_runI {P : Program} {ops : Array Oper} {o : Oper} {a : Act} {w : World} {K : Act → World → Prop} {Q : Exit → Act → World → Prop} {E : Prop}
    (hg : o.guard = none) (d x : Operand) (dT sT : TypeId) (hop : o.op = Op.call { callee := Callee.builtin Builtin.copy, args := #[d, x], argTypes := #[dT, sT] })
    (v u : Value) (hd : a.eval d = v) (hx : a.eval x = u) {v' : Value} {w' : World} (hr : (Builtin.copy_ #[dT, sT] o.type #[v, u]).run P w = .ok v' w') (hK : K (a.put o.dst v') w') :
    if Region.wanted o (yielded ops a.tmps) = true then Oper.wp P o a w K Q else E := by
  have hw : Region.wanted o (yielded ops a.tmps) = true := by simp [Region.wanted, hg]
  rw [if_pos hw]
  unfold Oper.wp
  simp [execOp, hop, resolve, invoke, builtin, hd, hx, hr, Result.andThen]
  exact hK

theorem nt43 : Try.f43.ntmps = 95 := rfl

set_option maxHeartbeats 4000000 in
set_option maxRecDepth 1000000 in
/-- At the end. -/
theorem ins_end (A : Option Addr) (n c m vc : Nat) (V : Option Addr) (v' : Value) (W1 : World) (w : World) (hm : 0 < m) (hnc : n ≤ c) (hA : A = none → n = 0 ∧ c = 0)
    (happ : (Builtin.append_ #[26, 26] 26 #[.slice A n c, .slice V m vc]).run Try.prog w = .ok v' W1) :
    Calls Try.prog 43 #[.slice A n c, .int .i64 n, .slice V m vc] w fun e w' => e = .returned v' ∧ w' = W1 := by
  have hz1 : ¬ ((m : Int) = 0) := by omega
  go_enter Try.func43, nt43
  cases A with
  | none =>
    obtain ⟨rfl, rfl⟩ := hA rfl
    go_wp2_with (at_builtin; refine Lib.wpList_append_run _ rfl _ _ _ _ rfl _ _ rfl rfl _ _ happ ?_)
    go_ret
    exact ⟨rfl, rfl⟩
  | some a =>
    obtain ⟨ab, ao, asp⟩ := a
    go_wp2_with (at_builtin; refine Lib.wpList_append_run _ rfl _ _ _ _ rfl _ _ rfl rfl _ _ happ ?_)
    all_goals (go_ret; exact ⟨rfl, rfl⟩)

set_option maxHeartbeats 4000000 in
set_option maxRecDepth 1000000 in
/-- No room. -/
theorem ins_grow (b n c i m vc B G : Nat) (V : Option Addr) (r1 r2 : Value) (W1 W2 W3 : World) (w : World) (hi : i < n) (hm : 0 < m) (hnc : n ≤ c) (hroom : c < n + m) (h63 : n + m ≤ 9223372036854775807) (hG : n + m ≤ G) (hG63 : G ≤ 9223372036854775807)
    (happ : ∀ ty, (Builtin.append_ #[26, 3] ty #[.slice (some ⟨b, 0, none⟩) i c, .int .i64 ((n : Int) + (m : Int) - (i : Int))]).run Try.prog w = .ok (.slice (some ⟨B, 0, none⟩) (n + m) G) W1)
    (hcpA : ∀ ty dc, (Builtin.copy_ #[26, 26] ty #[.slice (some ⟨B, i * 5, none⟩) (n + m - i) dc, .slice V m vc]).run Try.prog W1 = .ok r1 W2)
    (hcpB : ∀ ty dc sc, (Builtin.copy_ #[26, 26] ty #[.slice (some ⟨B, (i + m) * 5, none⟩) (n + m - (i + m)) dc, .slice (some ⟨b, i * 5, none⟩) (n - i) sc]).run Try.prog W2.drew = .ok r2 W3) :
    Calls Try.prog 43 #[.slice (some ⟨b, 0, none⟩) n c, .int .i64 i, .slice V m vc] w fun e w' => e = .returned (.slice (some ⟨B, 0, none⟩) (n + m) G) ∧ w' = W3 := by
  have hz1 : ¬ ((m : Int) = 0) := by omega
  have hz2 : ¬ ((i : Int) = (n : Int)) := by omega
  have hz3 : (c : Int) < (n : Int) + (m : Int) := by omega
  have hw1 : IntKind.i64.wrap ((i : Int) + (m : Int)) = (i : Int) + (m : Int) := by rw [IntKind.wrap_i64]; omega
  have hb1 : (0 : Int) ≤ (i : Int) + (m : Int) := by omega
  have hin : i ≤ n := by omega
  have htn : ((i : Int) + (m : Int)).toNat = i + m := by omega
  have hb3 : (i : Int) ≤ (n : Int) := by omega
  have hGi : ¬ (G = i) := by omega
  have hGim : ¬ (G = i + m) := by omega
  have hci : ¬ (c = i) := by omega
  go_enter Try.func43, nt43
  go_wp2_with (first
    | (at_builtin; refine Lib.wpList_append_run _ rfl _ _ _ _ rfl _ _ rfl rfl _ _ (happ _) ?_)
    | (at_builtin; refine wpList_copy_runI _ rfl _ _ 26 26 rfl _ _ rfl rfl (hcpA _ _) ?_))
  go_region_law (refine step_copy_runI rfl _ _ 26 26 rfl (.slice (some ⟨B, (i + m) * 5, none⟩) (n + m - (i + m)) (G - (i + m))) (.slice (some ⟨b, i * 5, none⟩) (n - i) (c - i)) (by simp [Act.eval, Act.put]) (by simp [Act.eval, Act.put]) (hcpB _ _ _) ?_)
  go_wp2
  go_ret
  exact ⟨rfl, rfl⟩

set_option maxHeartbeats 4000000 in
set_option maxRecDepth 1000000 in
/-- Room. -/
theorem ins_room (b n c i m vc : Nat) (V : Option Addr) (r1 r2 : Value) (W1 W2 : World) (w : World) (hi : i < n) (hm : 0 < m) (hroom : n + m ≤ c) (hc63 : c ≤ 9223372036854775807)
    (hov : ∀ lb cb, (callFunc 60 #[.slice V m vc, .slice (some ⟨b, (i + m) * 5, none⟩) lb cb]).run Try.prog w = .ok (.value (.bool false)) w)
    (hcp1 : ∀ ty dc sc, (Builtin.copy_ #[26, 26] ty #[.slice (some ⟨b, (i + m) * 5, none⟩) (n + m - (i + m)) dc, .slice (some ⟨b, i * 5, none⟩) (n + m - i) sc]).run Try.prog w.drew = .ok r1 W1)
    (hcp2 : ∀ ty dc, (Builtin.copy_ #[26, 26] ty #[.slice (some ⟨b, i * 5, none⟩) (n + m - i) dc, .slice V m vc]).run Try.prog W1 = .ok r2 W2) :
    Calls Try.prog 43 #[.slice (some ⟨b, 0, none⟩) n c, .int .i64 i, .slice V m vc] w fun e w' => e = .returned (.slice (some ⟨b, 0, none⟩) (n + m) c) ∧ w' = W2 := by
  have hz1 : ¬ ((m : Int) = 0) := by omega
  have hz2 : ¬ ((i : Int) = (n : Int)) := by omega
  have hw1 : IntKind.i64.wrap ((i : Int) + (m : Int)) = (i : Int) + (m : Int) := by rw [IntKind.wrap_i64]; omega
  have hb1 : (0 : Int) ≤ (i : Int) + (m : Int) := by omega
  have hin : i ≤ n := by omega
  have htn : ((i : Int) + (m : Int)).toNat = i + m := by omega
  have hb2 : ¬ (c = i + m) := by omega
  have hb3 : (i : Int) ≤ (n : Int) + (m : Int) := by omega
  have hb4 : ¬ (c = i) := by omega
  go_enter Try.func43, nt43
  go_wp2_with (simp only [hov])
  go_region_law (refine step_copy_runI rfl _ _ 26 26 rfl _ _ (by simp [Act.eval, Act.put]) (by simp [Act.eval, Act.put]) (hcp1 _ _ _) ?_)
  go_wp2_with (at_builtin; refine wpList_copy_runI _ rfl _ _ 26 26 rfl _ _ rfl rfl (hcp2 _ _) ?_)
  go_ret
  exact ⟨rfl, rfl⟩

/-- A copy into a row, of elements of more than one cell. -/
theorem run_copy_rowN {P : Program} (w : World) (dT sT ty elem : TypeId) (g o dLen dCap : Nat) (a : Addr) (sLen sCap : Nat) (cur : Array Value) (cs : List Value) (i : TypeInfo)
    (hu : P.underlying dT = some (.slice elem)) (hi : P.info? elem = some i) (hg : w.heap[g]? = some (.cells cur elem (0, 0))) (hn : cs.length = Nat.min sLen dLen * i.size)
    (hsrc : ∀ j v, cs[j]? = some v → w.cell? (a.add j) = some v) (hfit : o + cs.length ≤ cur.size) (h1 : ∀ v ∈ cs, v.oneCell' = true) :
    (Builtin.copy_ #[dT, sT] ty #[.slice (some ⟨g, o, none⟩) dLen dCap, .slice (some a) sLen sCap]).run P w =
      .ok (goInt (Nat.min sLen dLen)) (w.setRow g (cur.toList.take o ++ cs ++ cur.toList.drop (o + cs.length)).toArray) := by
  have hf := run_firstCells_some (P := P) w i.size (Nat.min sLen dLen) a sLen sCap cs hn hsrc
  have hst := run_storeCells_at P g o elem cs 0 cur w hg (by simpa using hfit) h1
  simp only [Nat.add_zero] at hst
  simp [Builtin.copy_, run_underlying hu, Builtin.lenOf, sizeOf, typeInfo, hi, hf, hst]

def insG (g g' : Get) (i : Nat) : Get := fun a b => if a < i then g a b else if a < i + 1 then g' (a - i) b else g (a - 1) b
def spInsert : FSpec
  | [.one (.own 0), .one (.c (.val (.int .i64 i))), .one (.own 1)], [.row 52 5 n g, .row 52 5 1 g'] =>
    some ⟨[0 ≤ i ∧ i ≤ (n : Int), n ≤ 1000000], .one (.own 2), [(0, .dead), (1, .row 52 5 1 g'), (2, .row 52 5 (n + 1) (insG g g' i.toNat))]⟩
  | _, _ => none

theorem row_one {w : World} {S : Nat → Prop} {n : Nat} {g : Get} {xs : List Value} (hl : xs.length = n * 5) (hx : ∀ i, i < n → ∀ j, j < 5 → ∃ x, xs[i * 5 + j]? = some x ∧ rep w S (g i j) x) : ∀ u ∈ xs, u.oneCell' = true := by
  intro u hu
  obtain ⟨q, hq⟩ := List.mem_iff_getElem?.1 hu
  have hlt : q < n * 5 := by rw [← hl]; exact (List.getElem?_eq_some_iff.1 hq).1
  obtain ⟨x, h1, h2⟩ := hx (q / 5) (by omega) (q % 5) (by omega)
  rw [show q / 5 * 5 + q % 5 = q from by omega, hq] at h1
  injection h1 with h1
  rw [h1]
  exact (rep_one h2).1

set_option maxHeartbeats 2000000 in
set_option maxRecDepth 10000 in
theorem insert_holds : Holds Try.prog 43 spInsert := by
  intro args bs out h hc w S μ vs hw hr hμ
  unfold spInsert at h
  split at h
  rotate_left
  · cases h
  rename_i i n g g'
  simp only [Option.some.injEq] at h
  subst h
  obtain ⟨⟨h0, hin⟩, hn6, _⟩ := hc
  obtain ⟨u, r, rfl, ⟨hmu, _⟩, u2, r2, rfl, ⟨rfl, _⟩, u3, r3, rfl, ⟨hmu1, _⟩, rfl⟩ := hr
  obtain ⟨i, rfl⟩ : ∃ k : Nat, i = k := ⟨i.toNat, by omega⟩
  have hin : i ≤ n := by omega
  simp only [Int.toNat_natCast]
  have l0 : Eng.look (idxMem 0 [Res.row 52 5 n g, Res.row 52 5 1 g']) 0 = some (.row 52 5 n g) := rfl
  have l1 : Eng.look (idxMem 0 [Res.row 52 5 n g, Res.row 52 5 1 g']) 1 = some (.row 52 5 1 g') := rfl
  obtain ⟨v, xs, hv, hown, hx⟩ := hw.res 0 _ l0
  rw [hmu] at hv
  injection hv with hv
  subst hv
  obtain ⟨v1, xs1, hv1, hown1, hx1⟩ := hw.res 1 _ l1
  rw [hmu1] at hv1
  injection hv1 with hv1
  subst hv1
  have hown1' := hown1
  obtain ⟨hxl1, hcase1⟩ := hown1
  rcases hcase1 with ⟨_, hn0⟩ | ⟨vb, vcap, vcur, rfl, _, hvg, hvc, hvm, hvs, hvt⟩
  · omega
  have h1c : ∀ u ∈ xs, u.oneCell' = true := row_one hown.1 hx
  have h1v : ∀ u ∈ xs1, u.oneCell' = true := row_one hxl1 hx1
  have hvcell : ∀ j u, xs1[j]? = some u → w.cell? ((⟨vb, 0, none⟩ : Addr).add j) = some u := hown1'.cells rfl
  obtain ⟨_, i0, z0, hi0, hs0, hb0, hz0, hzc0, _⟩ := hT 52 _ rfl
  have hs0 : i0.size = 5 := hs0
  have hb0 : i0.bytes = 40 := hb0
  have hzs : z0.cells.size = 5 := by rw [hzc0]; rfl
  have hxl := hown.1
  -- how it ends
  have fin : ∀ (e : Ending) (w' : World) (v' : Value), e = .returned v' → w.grownBy w' u.ownBlock → w'.ownsRow 0 52 5 v' (n + 1) (xs.take (i * 5) ++ xs1 ++ xs.drop (i * 5)) → (v'.ownBlock = u.ownBlock ∨ v'.ownBlock = some w.heap.size) →
      ∃ u' S' μ', e = .returned u' ∧ Kp w w' S S' μ μ' ∧ Wp (frOf w S μ 2) w' S' μ' [(0, .dead), (1, .row 52 5 1 g'), (2, .row 52 5 (n + 1) (insG g g' i))] ∧ repAV w' S' μ' (.one (.own 2)) u' ∧ ∀ m, 2 + 16 ≤ m → μ' m = none := by
    rintro e w' v' rfl hgr hown' hloc
    obtain ⟨hwn, kp⟩ := hw.appended (m := 0) (d := 2) (get' := insG g g' i) (hμ 2 (by simp)) l0 hmu hgr hown' (fun a ha c hc => by
      unfold insG
      split
      · rename_i hai
        obtain ⟨x, h1, h2⟩ := hx a (by omega) c hc
        refine ⟨x, ?_, h2⟩
        rw [List.append_assoc, List.getElem?_append_left (by rw [List.length_take, hxl]; omega), List.getElem?_take, if_pos (by omega)]
        exact h1
      · split
        · rename_i hai hai2
          obtain ⟨x, h1, h2⟩ := hx1 (a - i) (by omega) c hc
          refine ⟨x, ?_, h2⟩
          rw [List.append_assoc, List.getElem?_append_right (by rw [List.length_take, hxl]; omega), List.length_take, hxl, List.getElem?_append_left (by rw [hxl1]; omega), ← h1]
          congr 1
          omega
        · rename_i hai hai2
          obtain ⟨x, h1, h2⟩ := hx (a - 1) (by omega) c hc
          refine ⟨x, ?_, h2⟩
          rw [List.getElem?_append_right (by rw [List.length_append, List.length_take, hxl, hxl1]; omega), List.length_append, List.length_take, hxl, hxl1, List.getElem?_drop, ← h1]
          congr 1
          omega) hloc
    obtain ⟨A', c', rfl⟩ := ownsRow_slice hown'
    refine ⟨_, S, _, rfl, kp, hwn.same (fun m => ?_), ⟨setμ_same _ _ _, _, _, _, rfl⟩, fun m hm => ?_⟩
    · simp only [look_cons, List.cons_append, List.nil_append, idxMem]
      by_cases h0 : 0 = m
      · subst h0
        simp
      · by_cases h1 : 1 = m
        · subst h1
          simp
        · by_cases h2 : 2 = m
          · subst h2
            simp
          · simp [h0, h1, h2, Eng.look]
    · rw [setμ_ne _ _ (by omega)]
      exact hμ m (by simp; omega)
  have hown2 := hown
  obtain ⟨_, hcase⟩ := hown
  by_cases hie : i = n
  · subst hie
    obtain ⟨v', w', r1, r2, r3, _, r5⟩ := run_append_own_at (P := Try.prog) w 0 26 26 52 i0 z0 5 40 u26 hi0 hz0 hs0 hb0 hzs (by omega) u i xs hown2 ⟨vb, 0, none⟩ 1 vcap xs1 hxl1 hvcell h1v (by unfold maxLen; omega) (by omega) (Nat.zero_le _)
    have hsl : ∃ A c, u = .slice A i c ∧ i ≤ c ∧ (A = none → i = 0 ∧ c = 0) := by
      rcases hcase with ⟨rfl, rfl⟩ | ⟨g, cap, cur, rfl, _, _, hc, _⟩
      · exact ⟨_, _, rfl, Nat.le_refl _, fun _ => ⟨rfl, rfl⟩⟩
      · exact ⟨_, _, rfl, hc, fun h => by cases h⟩
    obtain ⟨A, c, rfl, hic, hA⟩ := hsl
    refine Calls.mono (ins_end A i c 1 vcap _ v' w' w (by omega) hic hA r1) ?_
    rintro e w2 ⟨rfl, rfl⟩
    refine fin _ _ _ rfl r3 ?_ r5
    have e1 : xs.take (i * 5) = xs := List.take_of_length_le (by omega)
    have e2 : xs.drop (i * 5) = [] := List.drop_eq_nil_of_le (by omega)
    rw [e1, e2, List.append_nil]
    exact r2
  have hilt : i < n := by omega
  rcases hcase with ⟨_, hn0⟩ | ⟨b, cap, cur, rfl, _, hg, hnc, hcm, hcs, htk⟩
  · omega
  have hcm' : cap ≤ 9223372036854775807 := by simpa [maxLen] using hcm
  have hcl : cur.toList.length = cap * 5 := by rw [Array.length_toList]; exact hcs
  have hcell : ∀ q u, xs[q]? = some u → w.cell? ⟨b, q, none⟩ = some u := by
    intro q u hu
    have := hown2.cells (g := b) rfl q u hu
    rwa [Addr.add_lit, Nat.zero_add] at this
  have hvb : vb ≠ b := by
    rintro rfl
    have := hw.dis 0 1 vb ⟨_, _, l0, rfl, hmu, (ownsRow_blks hown2 vb).2 rfl⟩ ⟨_, _, l1, rfl, hmu1, (ownsRow_blks hown1' vb).2 rfl⟩
    cases this
  have hdl : (xs.drop (i * 5)).length = (n - i) * 5 := by rw [List.length_drop, hxl, Nat.sub_mul]
  have htl : (xs.take (i * 5)).length = i * 5 := by rw [List.length_take, hxl]; omega
  have hblt : b < w.heap.size := (Array.getElem?_eq_some_iff.1 hg).1
  have hvlt : vb < w.heap.size := (Array.getElem?_eq_some_iff.1 hvg).1
  by_cases hroom : n + 1 ≤ cap
  · -- in place
    have hfz : ∀ (g : Nat) (cur : Array Value) (k : Nat), w.heap[g]? = some (.cells cur 52 (0, 0)) → w.frozen? ⟨g, k, none⟩ = false := by
      intro g cur k h
      simp [World.frozen?, h]
    have hov : ∀ lb cb, (callFunc 60 #[.slice (some ⟨vb, 0, none⟩) 1 vcap, .slice (some ⟨b, (i + 1) * 5, none⟩) lb cb]).run Try.prog w = .ok (.value (.bool false)) w := fun lb cb => by
      rw [run_callFunc_extern Try.func60 (by kernel_rfl) (by kernel_rfl) (by kernel_rfl) (e := Extern.SlicesOverlaps.overlaps #[26, 26] #[4]) (by kernel_rfl),
        Lib.run_overlaps_apart w 26 4 52 u26 5 (fun w => by simp [sizeOf, typeInfo, hi0, hs0]) ⟨vb, 0, none⟩ ⟨b, (i + 1) * 5, none⟩ 1 vcap lb cb hvb 52 52 vcur.size cur.size (by simp [World.shape?, hvg]) (by simp [World.shape?, hg]) (by omega) (hfz vb vcur _ hvg) (hfz vb vcur _ hvg)]
      rfl
    have hgd : w.drew.heap[b]? = some (.cells cur 52 (0, 0)) := hg
    obtain ⟨cur1, hcur1⟩ : ∃ c, c = (cur.toList.take ((i + 1) * 5) ++ xs.drop (i * 5) ++ cur.toList.drop ((i + 1) * 5 + (xs.drop (i * 5)).length)).toArray := ⟨_, rfl⟩
    have hcp1 : ∀ ty dc sc, _ := fun ty dc sc => run_copy_rowN (P := Try.prog) w.drew 26 26 ty 52 b ((i + 1) * 5) (n + 1 - (i + 1)) dc ⟨b, i * 5, none⟩ (n + 1 - i) sc cur (xs.drop (i * 5)) i0 u26 hi0 hgd
      (by rw [hdl, hs0, show Nat.min (n + 1 - i) (n + 1 - (i + 1)) = n - i from by simp only [Nat.min_def]; split <;> omega])
      (fun j u hj => by rw [Addr.add_lit]; rw [List.getElem?_drop] at hj; exact hcell _ u hj) (by rw [hdl, hcs]; omega) (fun u hu => h1c u (List.mem_of_mem_drop hu))
    rw [← hcur1] at hcp1
    have hg1 : (w.drew.setRow b cur1).heap[b]? = some (.cells cur1 52 (0, 0)) := setRow_heap _ _ _ _ _ _ hgd
    have hc1s : cur1.size = cap * 5 := by
      rw [hcur1]
      simp only [List.size_toArray, List.length_append, List.length_take, List.length_drop, hcl, hxl]
      omega
    have hc1l : cur1.toList.length = cap * 5 := by rw [Array.length_toList]; exact hc1s
    obtain ⟨cur2, hcur2⟩ : ∃ c, c = (cur1.toList.take (i * 5) ++ xs1 ++ cur1.toList.drop (i * 5 + xs1.length)).toArray := ⟨_, rfl⟩
    have hcp2 : ∀ ty dc, _ := fun ty dc => run_copy_rowN (P := Try.prog) (w.drew.setRow b cur1) 26 26 ty 52 b (i * 5) (n + 1 - i) dc ⟨vb, 0, none⟩ 1 vcap cur1 xs1 i0 u26 hi0 hg1
      (by rw [hxl1, hs0, show Nat.min 1 (n + 1 - i) = 1 from by simp only [Nat.min_def]; split <;> omega])
      (fun j u hj => by rw [cell_setRow_other _ _ _ _ (by rw [Addr.add_lit]; exact hvb)]; exact hvcell j u hj) (by rw [hxl1, hc1s]; omega) h1v
    rw [← hcur2] at hcp2
    have hg2 : ((w.drew.setRow b cur1).setRow b cur2).heap[b]? = some (.cells cur2 52 (0, 0)) := setRow_heap _ _ _ _ _ _ hg1
    have hc2s : cur2.size = cap * 5 := by
      rw [hcur2]
      simp only [List.size_toArray, List.length_append, List.length_take, List.length_drop, hc1l, hxl1]
      omega
    have htake : cur2.toList.take ((n + 1) * 5) = xs.take (i * 5) ++ xs1 ++ xs.drop (i * 5) := by
      have e0 : cur.toList.take (i * 5) = xs.take (i * 5) := by rw [← htk, List.take_take, Nat.min_eq_left (by omega)]
      have e1 : cur1.toList.take (i * 5) = xs.take (i * 5) := by
        rw [hcur1, ← e0]
        show (cur.toList.take ((i + 1) * 5) ++ xs.drop (i * 5) ++ cur.toList.drop _).take (i * 5) = _
        rw [List.append_assoc, List.take_append_of_le_length (by rw [List.length_take, hcl]; omega), List.take_take, Nat.min_eq_left (by omega)]
      have e2 : (cur1.toList.drop (i * 5 + xs1.length)).take ((n - i) * 5) = xs.drop (i * 5) := by
        rw [hcur1, hxl1]
        show ((cur.toList.take ((i + 1) * 5) ++ xs.drop (i * 5) ++ cur.toList.drop _).drop (i * 5 + 1 * 5)).take _ = _
        rw [List.append_assoc, show i * 5 + 1 * 5 = (cur.toList.take ((i + 1) * 5)).length from by rw [List.length_take, hcl]; omega, List.drop_left, ← hdl, List.take_left]
      rw [hcur2]
      show (cur1.toList.take (i * 5) ++ xs1 ++ cur1.toList.drop (i * 5 + xs1.length)).take ((n + 1) * 5) = _
      rw [e1, show (n + 1) * 5 = (xs.take (i * 5) ++ xs1).length + (n - i) * 5 from by rw [List.length_append, htl, hxl1]; omega, List.take_length_add_append, e2]
    refine Calls.mono (ins_room b n cap i 1 vcap _ _ _ _ _ w hilt (by omega) hroom hcm' hov hcp1 hcp2) ?_
    rintro e w' ⟨rfl, rfl⟩
    refine fin _ _ _ rfl ?_ ?_ (.inl rfl)
    · refine ⟨rfl, rfl, rfl, by rw [size_setRow, size_setRow]; exact Nat.le_refl _, fun k hk hne => ?_⟩
      rw [setRow_other _ _ _ _ (by rintro rfl; exact hne rfl), setRow_other _ _ _ _ (by rintro rfl; exact hne rfl)]
      rfl
    · refine ⟨?_, .inr ⟨b, cap, cur2, rfl, Nat.zero_le _, hg2, hroom, hcm, hc2s, htake⟩⟩
      rw [List.length_append, List.length_append, htl, hxl1, hdl]
      omega
  · -- a new row
    have hcp0 : cap < n + 1 := by omega
    have hold : (Builtin.firstCells i0.size i (.slice (some ⟨b, 0, none⟩) i cap)).run Try.prog w.drew = .ok (xs.take (i * 5)).toArray w.drew := by
      rw [hs0]
      exact run_firstCells_some w.drew 5 i ⟨b, 0, none⟩ i cap (xs.take (i * 5)) htl (fun j u hj => by
        rw [Addr.add_lit, Nat.zero_add]
        rw [List.getElem?_take] at hj
        split at hj
        · exact hcell j u hj
        · cases hj)
    have hik : i + (n + 1 - i) = n + 1 := by omega
    have hkk : (n : Int) + ((1 : Nat) : Int) - (i : Int) = ((n + 1 - i : Nat) : Int) := by omega
    obtain ⟨G, hG⟩ : ∃ G, G = grownCap w (n + 1) cap 52 := ⟨_, rfl⟩
    obtain ⟨ROW, hROW⟩ : ∃ ROW : Array Value, ROW = (xs.take (i * 5)).toArray ++ Builtin.zeroCells z0.cells (n + 1 - i) ++ Builtin.zeroCells z0.cells (G - (n + 1)) := ⟨_, rfl⟩
    have hGn : n + 1 ≤ G := by rw [hG]; exact grownCap_ge w _ _ _
    have hGm : G ≤ maxLen := by rw [hG]; exact grownCap_le_maxLen w (n + 1) cap 52 (by unfold maxLen; omega)
    have hG63 : G ≤ 9223372036854775807 := by simpa [maxLen] using hGm
    have happ : ∀ ty, (Builtin.append_ #[26, 3] ty #[.slice (some ⟨b, 0, none⟩) i cap, .int .i64 ((n : Int) + ((1 : Nat) : Int) - (i : Int))]).run Try.prog w = .ok (.slice (some ⟨w.heap.size, 0, none⟩) (n + 1) G) (w.drew.alloc (.cells ROW 52)) := fun ty => by
      have h := Lib.run_append_grow_zeros w 26 3 ty 52 i0 z0 .i64 .i64 u26 u3 hi0 hz0 (some ⟨b, 0, none⟩) i cap (xs.take (i * 5)) hold (n + 1 - i) (by omega) (by omega) (by omega) (by omega) (by rw [hb0]; omega) (by rw [hb0, hik]; exact growslice_fits hcp0 (by omega))
      rw [hik, ← hG, ← hROW] at h
      rw [hkk]
      exact h
    have hRs : ROW.size = G * 5 := by
      rw [hROW]
      simp only [Array.size_append, List.size_toArray, size_zeroCells, htl, hzs]
      omega
    have hRl : ROW.toList.length = G * 5 := by rw [Array.length_toList]; exact hRs
    have hgN : (w.drew.alloc (.cells ROW 52)).heap[w.heap.size]? = some (.cells ROW 52 (0, 0)) := heap_alloc_new w.drew _
    have hold1 : ∀ k, k < w.heap.size → (w.drew.alloc (.cells ROW 52)).heap[k]? = w.heap[k]? := fun k hk => heap_alloc_old w.drew _ hk
    obtain ⟨cur1, hcur1⟩ : ∃ c, c = (ROW.toList.take (i * 5) ++ xs1 ++ ROW.toList.drop (i * 5 + xs1.length)).toArray := ⟨_, rfl⟩
    have hcpA : ∀ ty dc, _ := fun ty dc => run_copy_rowN (P := Try.prog) (w.drew.alloc (.cells ROW 52)) 26 26 ty 52 w.heap.size (i * 5) (n + 1 - i) dc ⟨vb, 0, none⟩ 1 vcap ROW xs1 i0 u26 hi0 hgN
      (by rw [hxl1, hs0, show Nat.min 1 (n + 1 - i) = 1 from by simp only [Nat.min_def]; split <;> omega])
      (fun j u hj => by rw [World.cell?_of_block (w := w) (by rw [Addr.add_lit]; exact hold1 vb hvlt)]; exact hvcell j u hj) (by rw [hxl1, hRs]; omega) h1v
    rw [← hcur1] at hcpA
    have hc1s : cur1.size = G * 5 := by
      rw [hcur1]
      simp only [List.size_toArray, List.length_append, List.length_take, List.length_drop, hRl, hxl1]
      omega
    have hc1l : cur1.toList.length = G * 5 := by rw [Array.length_toList]; exact hc1s
    have hg1 : ((w.drew.alloc (.cells ROW 52)).setRow w.heap.size cur1).drew.heap[w.heap.size]? = some (.cells cur1 52 (0, 0)) := setRow_heap _ _ _ _ _ _ hgN
    have hold2 : ∀ k, k < w.heap.size → ((w.drew.alloc (.cells ROW 52)).setRow w.heap.size cur1).drew.heap[k]? = w.heap[k]? := fun k hk => (setRow_other _ _ _ _ (by omega)).trans (hold1 k hk)
    obtain ⟨cur2, hcur2⟩ : ∃ c, c = (cur1.toList.take ((i + 1) * 5) ++ xs.drop (i * 5) ++ cur1.toList.drop ((i + 1) * 5 + (xs.drop (i * 5)).length)).toArray := ⟨_, rfl⟩
    have hcpB : ∀ ty dc sc, _ := fun ty dc sc => run_copy_rowN (P := Try.prog) ((w.drew.alloc (.cells ROW 52)).setRow w.heap.size cur1).drew 26 26 ty 52 w.heap.size ((i + 1) * 5) (n + 1 - (i + 1)) dc ⟨b, i * 5, none⟩ (n - i) sc cur1 (xs.drop (i * 5)) i0 u26 hi0 hg1
      (by rw [hdl, hs0, show Nat.min (n - i) (n + 1 - (i + 1)) = n - i from by simp only [Nat.min_def]; split <;> omega])
      (fun j u hj => by rw [World.cell?_of_block (w := w) (by rw [Addr.add_lit]; exact hold2 b hblt), Addr.add_lit]; rw [List.getElem?_drop] at hj; exact hcell _ u hj) (by rw [hdl, hc1s]; omega) (fun u hu => h1c u (List.mem_of_mem_drop hu))
    rw [← hcur2] at hcpB
    have hc2s : cur2.size = G * 5 := by
      rw [hcur2]
      simp only [List.size_toArray, List.length_append, List.length_take, List.length_drop, hc1l, hxl]
      omega
    have hg2 : (((w.drew.alloc (.cells ROW 52)).setRow w.heap.size cur1).drew.setRow w.heap.size cur2).heap[w.heap.size]? = some (.cells cur2 52 (0, 0)) := setRow_heap _ _ _ _ _ _ hg1
    have htake : cur2.toList.take ((n + 1) * 5) = xs.take (i * 5) ++ xs1 ++ xs.drop (i * 5) := by
      have e0 : ROW.toList.take (i * 5) = xs.take (i * 5) := by
        rw [hROW, Array.toList_append, Array.toList_append, List.append_assoc]
        show (xs.take (i * 5) ++ _).take (i * 5) = _
        rw [List.take_append_of_le_length (by rw [htl]; exact Nat.le_refl _), List.take_of_length_le (by rw [htl]; exact Nat.le_refl _)]
      have e1 : cur1.toList.take ((i + 1) * 5) = xs.take (i * 5) ++ xs1 := by
        rw [hcur1, e0]
        show (xs.take (i * 5) ++ xs1 ++ ROW.toList.drop _).take ((i + 1) * 5) = _
        rw [show (i + 1) * 5 = (xs.take (i * 5) ++ xs1).length from by rw [List.length_append, htl, hxl1]; omega, List.take_left]
      rw [hcur2]
      show (cur1.toList.take ((i + 1) * 5) ++ xs.drop (i * 5) ++ cur1.toList.drop _).take ((n + 1) * 5) = _
      rw [e1, show (n + 1) * 5 = (xs.take (i * 5) ++ xs1 ++ xs.drop (i * 5)).length from by rw [List.length_append, List.length_append, htl, hxl1, hdl]; omega, List.take_left]
    refine Calls.mono (ins_grow b n cap i 1 vcap w.heap.size G _ _ _ _ _ _ w hilt (by omega) hnc hcp0 (by omega) hGn hG63 happ hcpA hcpB) ?_
    rintro e w' ⟨rfl, rfl⟩
    refine fin _ _ _ rfl ?_ ?_ (.inr rfl)
    · refine ⟨rfl, rfl, rfl, ?_, fun k hk hne => ?_⟩
      · rw [size_setRow]
        show w.heap.size ≤ ((w.drew.alloc (.cells ROW 52)).setRow w.heap.size cur1).heap.size
        rw [size_setRow]
        show w.heap.size ≤ (w.heap.push _).size
        rw [Array.size_push]
        omega
      · rw [setRow_other _ _ _ _ (by omega)]
        exact hold2 k hk
    · refine ⟨?_, .inr ⟨w.heap.size, G, cur2, rfl, Nat.zero_le _, hg2, hGn, hGm, hc2s, htake⟩⟩
      rw [List.length_append, List.length_append, htl, hxl1, hdl]
      omega
end Go.Proofs.Ytahhejlpmacloaa

/- The walks of the clones. -/
namespace Go.Proofs.Ytahhejlpmacloaa
open Go Go.Eng

/-- A slice against nil: which of the two is not known where it has no element. -/
theorem sliceNil_any {P : Program} {o : Oper} {s : St} {t ty e ty2 n sz : Nat} {g : Get} (ho : o.op = .binOp .eql ty (.tmp t) (.const (.slice none 0 0)) ty2) (hty : P.underlying ty = some (.slice e)) (ht : Eng.look s.env t = some (.one (.c (.sl n sz g)))) (nb : Nat → Prop) :
    StepAny P o s (fun E => ∃ b, (b = true → n = 0) ∧ E = ⟨[], sc (.bool b), []⟩) nb := by
  intro F w S μ a hw he hnb K Q hK
  obtain ⟨A, c, hu, hnc, hcm, hcell⟩ := he t _ ht
  have hee : a.eval (.tmp t) = .slice A n c := hu
  have hrun : (execOp a.eval o).run P w = .ok (.value (.bool A.isNone)) w := by
    simp only [execOp, ho, hee]
    rw [Sem.run_bind]
    have h1 : (do eqGuard .eql ty (.tmp t) (.const (.slice none 0 0)) (.slice A n c) (.slice none 0 0); binOp .eql ty (.slice A n c) (.slice none 0 0) : Sem Value).run P w = .ok (.bool A.isNone) w := by
      have := run_equal_slice_nil (P := P) w ty e A n c hty
      simp [eqGuard, binOp, this]
    simp only [Act.eval] at *
    rw [h1]
    rfl
  refine wp_value hrun (hK ⟨[], sc (.bool A.isNone), []⟩ _ w S μ ⟨A.isNone, fun h => ?_, rfl⟩ (Kp.refl _ _ _) hw ⟨rfl, rfl⟩ (fun _ _ => rfl))
  cases A with
  | some a => cases h
  | none =>
    rcases Nat.eq_zero_or_pos n with h0 | h0
    · exact h0
    · obtain ⟨b, o', h1, _⟩ := hcell h0
      cases h1

def spClone40 : FSpec
  | [.one (.c (.sl n 2 g))], [] => some ⟨[n ≤ 1000000], .one (.own 0), [(0, .row 47 2 n g)]⟩
  | _, _ => none
theorem clone40_holds : Holds Try.prog 40 spClone40 := by
  refine Holds.of hT Try.func40 rfl 8 rfl fun args bs out h hc => ?_
  unfold spClone40 at h
  split at h
  rotate_left
  · cases h
  rename_i n g
  simp only [Option.some.injEq] at h
  subst h
  obtain ⟨hn, _⟩ := hc
  refine ⟨by simp, by simp [Res.live], fun F hF => ?_⟩
  refine W.seqR hT hG0 rfl (by (repeat' (first | assumption | exact rfl | exact trivial | omega | (dsimp only; omega) | refine ⟨?_, ?_⟩ | intro _ | (simp_all; done) | fail))) ?_
  refine W.seq (W.seqO (WO.run 1 hT hG0 rfl rfl trivial (WO.any rfl rfl rfl (sliceNil_any (t := 3) (n := n) (sz := 2) (g := g) rfl ((hT 25 _ rfl).1) rfl _) ?_)))
  rintro E ⟨b, hb, rfl⟩
  refine WO.done (Nat.le_refl _) ?_
  refine W.cond rfl (fun h1 => ?_) (fun h1 => W.skip ?_)
  · have h0 := hb h1
    subst h0
    refine W.seqR hT hG0 rfl (by (repeat' (first | assumption | exact rfl | exact trivial | omega | (dsimp only; omega) | refine ⟨?_, ?_⟩ | intro _ | (simp_all; done) | fail))) ?_
    refine W.ret ⟨_, [(0, none)], rfl, rfl, ?_, ?_, rfl, rfl, rfl⟩ <;> (repeat' (first | exact rfl | exact trivial | exact cellM.refl _ | exact fun _ _ _ _ => cellM.refl _ | exact fun _ => ⟨rfl, fun _ _ _ _ => cellM.refl _⟩ | refine ⟨?_, ?_⟩ | fail))
  · refine W.seqR hT hG0 rfl (by (repeat' (first | assumption | exact rfl | exact trivial | omega | (dsimp only; omega) | refine ⟨?_, ?_⟩ | intro _ | (simp_all; done) | fail))) ?_
    refine W.ret ⟨_, [(0, some 80)], rfl, rfl, ?_, ?_, rfl, rfl, rfl⟩ <;> (repeat' (first | exact rfl | exact trivial | exact cellM.refl _ | exact fun _ _ _ _ => cellM.refl _ | exact fun _ => ⟨rfl, fun _ _ _ _ => cellM.refl _⟩ | refine ⟨?_, ?_⟩ | fail))
    exact Nat.zero_add n

def spClone41 : FSpec
  | [.one (.c (.sl n 5 g))], [] => some ⟨[n ≤ 1000000], .one (.own 0), [(0, .row 52 5 n g)]⟩
  | _, _ => none
theorem clone41_holds : Holds Try.prog 41 spClone41 := by
  refine Holds.of hT Try.func41 rfl 8 rfl fun args bs out h hc => ?_
  unfold spClone41 at h
  split at h
  rotate_left
  · cases h
  rename_i n g
  simp only [Option.some.injEq] at h
  subst h
  obtain ⟨hn, _⟩ := hc
  refine ⟨by simp, by simp [Res.live], fun F hF => ?_⟩
  refine W.seqR hT hG0 rfl (by (repeat' (first | assumption | exact rfl | exact trivial | omega | (dsimp only; omega) | refine ⟨?_, ?_⟩ | intro _ | (simp_all; done) | fail))) ?_
  refine W.seq (W.seqO (WO.run 1 hT hG0 rfl rfl trivial (WO.any rfl rfl rfl (sliceNil_any (t := 3) (n := n) (sz := 5) (g := g) rfl ((hT 26 _ rfl).1) rfl _) ?_)))
  rintro E ⟨b, hb, rfl⟩
  refine WO.done (Nat.le_refl _) ?_
  refine W.cond rfl (fun h1 => ?_) (fun h1 => W.skip ?_)
  · have h0 := hb h1
    subst h0
    refine W.seqR hT hG0 rfl (by (repeat' (first | assumption | exact rfl | exact trivial | omega | (dsimp only; omega) | refine ⟨?_, ?_⟩ | intro _ | (simp_all; done) | fail))) ?_
    refine W.ret ⟨_, [(0, none)], rfl, rfl, ?_, ?_, rfl, rfl, rfl⟩ <;> (repeat' (first | exact rfl | exact trivial | exact cellM.refl _ | exact fun _ _ _ _ => cellM.refl _ | exact fun _ => ⟨rfl, fun _ _ _ _ => cellM.refl _⟩ | refine ⟨?_, ?_⟩ | fail))
  · refine W.seqR hT hG0 rfl (by (repeat' (first | assumption | exact rfl | exact trivial | omega | (dsimp only; omega) | refine ⟨?_, ?_⟩ | intro _ | (simp_all; done) | fail))) ?_
    refine W.ret ⟨_, [(0, some 80)], rfl, rfl, ?_, ?_, rfl, rfl, rfl⟩ <;> (repeat' (first | exact rfl | exact trivial | exact cellM.refl _ | exact fun _ _ _ _ => cellM.refl _ | exact fun _ => ⟨rfl, fun _ _ _ _ => cellM.refl _⟩ | refine ⟨?_, ?_⟩ | fail))
    exact Nat.zero_add n

end Go.Proofs.Ytahhejlpmacloaa
