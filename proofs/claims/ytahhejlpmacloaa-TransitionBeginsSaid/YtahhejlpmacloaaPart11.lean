/- A program logic over abstract states, part Z: rows in a box settle. -/
import Derived.Test.YtahhejlpmacloaaPart10
import Derived.Test.YtahhejlpmacloaaPart08
import Derived.Test.YtahhejlpmacloaaProg
import Derived.KernelRfl
import Derived.Test.YtahhejlpmacloaaPart09
import Derived.IntWalk
namespace Go.Eng
open Go

section
variable {P : Program} {F : Fr} {N nx : Nat} {s : St} {K : Exit → Nat → St → Prop} {w : World} {S : Nat → Prop} {μ : Mu} {mem : List (Nat × Res)}

/-- A box's cells are told in other words. -/
theorem Wp.rebox (h : Wp F w S μ mem) {m ty : Nat} {cells cells' : List AC} (hm : look mem m = some (.box ty cells)) (hr : ∀ b us, μ m = some (.pointer (some ⟨b, 0, none⟩)) → w.heap[b]? = some (.cells (List.toArray us) ty (0, 0)) → reps w S μ cells us → reps w S μ cells' us) : Wp F w S μ ((m, .box ty cells') :: mem) := by
  have ho : ∀ m' b, Owns μ ((m, .box ty cells') :: mem) m' b → Owns μ mem m' b := by
    rintro m' b ⟨r, v, h1, h2, h3, h4⟩
    rw [look_cons] at h1
    split at h1
    · rename_i e
      subst e
      exact ⟨_, v, hm, rfl, h3, h4⟩
    · exact ⟨r, v, h1, h2, h3, h4⟩
  refine ⟨h.grow, h.Sb, h.Sn, h.Sf, fun m' r hl => ?_, fun m' b hO => h.sep m' b (ho m' b hO), fun m' m'' b h1 h2 => h.dis m' m'' b (ho m' b h1) (ho m'' b h2)⟩
  rw [look_cons] at hl
  split at hl
  · rename_i e
    subst e
    injection hl with hl
    subst hl
    obtain ⟨b, us, h1, h2, h3⟩ := h.res _ _ hm
    exact ⟨b, us, h1, h2, hr b us h1 h2 h3⟩
  · exact h.res m' r hl

/-- The rows in a box settle. -/
theorem W.settle {c : Code} (m : Nat) {ty : Nat} {cells : List AC} {xs : List Cell} {d : List (Nat × Res)} (hm : look s.mem m = some (.box ty cells)) (hx : toCells s.mem cells = some (xs, d)) (hd : memB (keysOf d) m = false)
    (h : W P F N c nx ⟨s.env, (m, .box ty (xs.map AC.c)) :: (d ++ s.mem)⟩ K) : W P F N c nx s K := by
  intro a w hr
  obtain ⟨hdf, hN, hk, S, μ, hw, he, hU, hmu⟩ := hr
  obtain ⟨b, us, h1, h2, h3⟩ := hw.res m _ hm
  obtain ⟨S', hs, hw', hc⟩ := rep_toCells hw h3 hx
  have hm' : look (d ++ s.mem) m = some (.box ty cells) := by
    rw [look_append, look_keys (fun hk => by rw [memB_ok hk] at hd; cases hd)]
    exact hm
  have k : Kp w w S S' μ μ := ⟨hs, fun _ _ => rfl, fun _ _ h => h⟩
  refine h a w ⟨hdf, hN, hk, S', μ, hw'.rebox hm' (fun b' us' g1 g2 _ => ?_), fun j v hj => k.av _ _ (he j v hj), hU, hmu⟩
  rw [h1] at g1
  injection g1 with g1
  injection g1 with g1
  injection g1 with g1
  injection g1 with g1
  subst g1
  rw [h2] at g2
  injection g2 with g2
  injection g2 with g2
  have : us = us' := by simpa using congrArg Array.toList g2
  subst this
  exact repCs_acs hc

/-- One operation whose guard is known to hold. -/
theorem WO.anyG {ops : Array Oper} {i : Nat} {o : Oper} {Ok : Eff → Prop} {j d : Nat} {want g : Bool} (ho : nth ops.toList i = some o) (hg : o.guard = some (j, want)) (hdj : dstOf ops.toList j = some d) (hdN : Nat.blt d N = true) (hgb : guardB s d want = some g) (hgt : g = true)
    (hd : dstOK N o.dst = true) (h : StepAny P o s Ok (fun m => nx ≤ m ∧ m < nx + 16)) (hn : ∀ E, Ok E → WO P F N ops (i + 1) (nx + 16) (s.app o.dst E) K) : WO P F N ops i nx s K := by
  intro a w hr
  rw [nth_eq] at ho
  have hi : ops[i]? = some o := by simpa using ho
  have hlt : i < ops.size := (Array.getElem?_eq_some_iff.1 hi).1
  rw [show ops.size - i = (ops.size - (i + 1)) + 1 from by omega, List.range'_succ]
  simp only [wpOps, hi]
  obtain ⟨hdf, hN, hk, S, μ, hw, he, hU, hmu⟩ := hr
  rw [Nat.blt_eq] at hdN
  have hy : yielded ops a.tmps j = (match a.tmps[d]? with | some (.bool b) => some b | _ => none : Option Bool) := by
    have : (ops[j]?).bind (·.dst) = some d := by
      unfold dstOf at hdj
      rw [nth_eq] at hdj
      cases ho : ops[j]? with
      | none => simp [ho] at hdj
      | some o' => simp [ho] at hdj; simpa using hdj
    unfold yielded
    rw [this]
    rfl
  have hwt : Region.wanted o (yielded ops a.tmps) = true := by
    have := hy.trans ((guardB_ok he (by rw [hN]; exact hdN) hgb).2 hgt)
    simp [Region.wanted, hg, this]
  rw [if_pos hwt]
  refine .inl (h F w S μ a hw he (fun m hm => hU m hm.1) _ _ (fun E u w' S' μ' hE k hw' hv hm => hn E hE _ _ ⟨?_, ?_, hk, S', μ', hw', ?_, fun m hm' => ?_, fun j v hj => ?_⟩))
  · cases o.dst <;> exact hdf
  · cases hdo : o.dst with
    | none => exact hN
    | some d => simpa [Act.put] using hN
  · cases hdo : o.dst with
    | none => exact repEnv_keep k he
    | some d =>
      rw [hdo] at hd
      simp only [dstOK, Nat.blt_eq] at hd
      exact repEnv_put k he (by rw [hN]; exact hd) hv
  · have hm'' : nx + 16 ≤ m := hm'
    rw [hm m (by omega)]
    exact hU m (show nx ≤ m by omega)
  · have hv := hmu j v hj
    rw [hm j (fun hf => by rw [hU j hf.1] at hv; cases hv)]
    exact hv

/-- Two structs of two ints compared. -/
theorem eqPair_any {o : Oper} {t ty2 : Nat} {x y : Operand} {f0 f1 : Field} {c c' : List Prop} {a b a' b' : Int} (ho : o.op = .binOp .eql t x y ty2)
    (h : P.underlying t = some (.struct #[f0, f1])) (hp : P.stoodInHeld t = false) (h0 : P.underlying f0.type = some (.int .i64)) (h1 : P.underlying f1.type = some (.int .i64)) (o0 : f0.offset = 0) (o1 : f1.offset = 1)
    (n0 : f0.name ≠ "_") (n1 : f1.name ≠ "_") (hgt : P.eqGuardType P.depth t = false)
    (hx : arg s x = some (c, .agg [.c (.val (.int .i64 a)), .c (.val (.int .i64 b))])) (hc : All c) (hy : arg s y = some (c', .agg [.c (.val (.int .i64 a')), .c (.val (.int .i64 b'))])) (hc' : All c') (nb : Nat → Prop) :
    StepAny P o s (fun E => E = ⟨[], sc (.bool (a == a' && b == b')), []⟩) nb := by
  intro F w S μ act hw he hnb K Q hK
  obtain ⟨us, hxe, ⟨u1, r1, rfl, ⟨rfl, _⟩, u2, r2, rfl, ⟨rfl, _⟩, rfl⟩⟩ := rep_arg he hx hc
  obtain ⟨us', hye, ⟨u3, r3, rfl, ⟨rfl, _⟩, u4, r4, rfl, ⟨rfl, _⟩, rfl⟩⟩ := rep_arg he hy hc'
  have heq := equal_pair h hp h0 h1 o0 o1 n0 n1 w a b a' b'
  have hrun : (execOp act.eval o).run P w = .ok (.value (.bool (a == a' && b == b'))) w := by
    simp only [execOp, ho, hxe, hye]
    simp [eqGuard, binOp, hgt, heq]
  exact wp_value hrun (hK ⟨[], sc (.bool (a == a' && b == b')), []⟩ _ w S μ rfl (Kp.refl _ _ _) hw ⟨rfl, rfl⟩ (fun _ _ => rfl))

/-- .. and is reckoned. -/
theorem WO.runG {T : Tab} {G : List (Nat × FSpec)} {ops : Array Oper} {i : Nat} {o : Oper} {j d : Nat} {want g : Bool} {E : Eff} (hT : TabOK P T) (hG : GOK P G) (ho : nth ops.toList i = some o) (hg : o.guard = some (j, want)) (hdj : dstOf ops.toList j = some d) (hdN : Nat.blt d N = true) (hgb : guardB s d want = some g) (hgt : g = true)
    (hd : dstOK N o.dst = true) (hE : opEff T G s nx o.op = some E) (hc : All E.cond) (hn : WO P F N ops (i + 1) (nx + 16) (s.app o.dst E) K) : WO P F N ops i nx s K :=
  WO.anyG ho hg hdj hdN hgb hgt hd (Ok := fun E' => E' = E) (fun F w S μ a hw he hnb K Q hK => opEff_ok hT hG hE F w S μ a hw he hnb hc K Q (fun u w' S' μ' k hw' hv hm => hK E u w' S' μ' rfl k hw' hv hm)) (fun E' hE' => by subst hE'; exact hn)
end
end Go.Eng

/- The seat's types, as the program logic wants them. Printed by gentab.py. -/
namespace Go.Proofs.Ytahhejlpmacloaa
open Go Go.Eng

def T : Tab := [
  (3, ⟨.int .i64, 1, 8, [.int .i64 0], 1⟩),
  (4, ⟨.bool, 1, 1, [.bool false], 0⟩),
  (5, ⟨.int .u8, 1, 1, [.int .u8 0], 0⟩),
  (9, ⟨.string, 1, 16, [.string ⟨#[]⟩], 0⟩),
  (12, ⟨.int .u64, 1, 8, [.int .u64 0], 0⟩),
  (22, ⟨.slice 3, 1, 24, [.slice none 0 0], 3⟩),
  (23, ⟨.pointer 44, 1, 8, [.pointer none], 0⟩),
  (25, ⟨.slice 47, 1, 24, [.slice none 0 0], 3⟩),
  (26, ⟨.slice 52, 1, 24, [.slice none 0 0], 3⟩),
  (28, ⟨.struct #[⟨"Routers", 25, 0, false, "", "", 0⟩, ⟨"Links", 26, 1, false, "", "", 24⟩], 2, 48, [.slice none 0 0, .slice none 0 0], 0⟩),
  (30, ⟨.slice 64, 1, 24, [.slice none 0 0], 3⟩),
  (31, ⟨.int .i64, 1, 8, [.int .i64 0], 1⟩),
  (35, ⟨.struct #[⟨"A", 3, 0, false, "", "", 0⟩, ⟨"B", 3, 1, false, "", "", 8⟩, ⟨"CostA", 3, 2, false, "", "", 16⟩, ⟨"CostB", 3, 3, false, "", "", 24⟩], 4, 32, [.int .i64 0, .int .i64 0, .int .i64 0, .int .i64 0], 0⟩),
  (38, ⟨.slice 22, 1, 24, [.slice none 0 0], 3⟩),
  (44, ⟨.struct #[⟨"L", 22, 0, false, "", "", 0⟩, ⟨"At", 3, 1, false, "", "", 24⟩], 2, 32, [.slice none 0 0, .int .i64 0], 0⟩),
  (47, ⟨.struct #[⟨"ID", 3, 0, false, "", "", 0⟩, ⟨"Capable", 4, 1, false, "", "", 8⟩], 2, 16, [.int .i64 0, .bool false], 0⟩),
  (49, ⟨.func #[3] #[4] false, 1, 8, [.nilFunc], 0⟩),
  (50, ⟨.func #[3] #[3] false, 1, 8, [.nilFunc], 0⟩),
  (52, ⟨.struct #[⟨"A", 3, 0, false, "", "", 0⟩, ⟨"B", 3, 1, false, "", "", 8⟩, ⟨"CostA", 3, 2, false, "", "", 16⟩, ⟨"CostB", 3, 3, false, "", "", 24⟩, ⟨"Capacity", 3, 4, false, "", "", 32⟩], 5, 40, [.int .i64 0, .int .i64 0, .int .i64 0, .int .i64 0, .int .i64 0], 0⟩),
  (55, ⟨.slice 72, 1, 24, [.slice none 0 0], 3⟩),
  (58, ⟨.map 3 22, 1, 8, [.map none], 0⟩),
  (61, ⟨.map 3 3, 1, 8, [.map none], 0⟩),
  (64, ⟨.struct #[⟨"Router", 3, 0, false, "", "", 0⟩, ⟨"Rank", 3, 1, false, "", "", 8⟩], 2, 16, [.int .i64 0, .int .i64 0], 2⟩),
  (72, ⟨.struct #[⟨"From", 3, 0, false, "", "", 0⟩, ⟨"To", 3, 1, false, "", "", 8⟩], 2, 16, [.int .i64 0, .int .i64 0], 2⟩),
  (75, ⟨.map 72 3, 1, 8, [.map none], 0⟩),
  (77, ⟨.struct #[⟨"from", 3, 0, false, "", "bitcast/transition", 0⟩, ⟨"to", 3, 1, false, "", "bitcast/transition", 8⟩, ⟨"cost", 3, 2, false, "", "bitcast/transition", 16⟩], 3, 24, [.int .i64 0, .int .i64 0, .int .i64 0], 0⟩),
  (78, ⟨.slice 77, 1, 24, [.slice none 0 0], 3⟩),
  (82, ⟨.int .u64, 1, 8, [.int .u64 0], 0⟩),
  (86, ⟨.func #[52, 52] #[3] false, 1, 8, [.nilFunc], 0⟩),
  (92, ⟨.slice 95, 1, 24, [.slice none 0 0], 3⟩),
  (95, ⟨.struct #[⟨"Router", 3, 0, false, "", "", 0⟩, ⟨"Cost", 3, 1, false, "", "", 8⟩], 2, 16, [.int .i64 0, .int .i64 0], 2⟩),
  (107, ⟨.int .u64, 1, 8, [.int .u64 0], 0⟩),
  (115, ⟨.map 3 131, 1, 8, [.map none], 0⟩),
  (117, ⟨.struct #[⟨"out", 115, 0, false, "", "bitcast/shortest", 0⟩, ⟨"in", 115, 1, false, "", "bitcast/shortest", 8⟩], 2, 16, [.map none, .map none], 0⟩),
  (126, ⟨.func #[47] #[4] false, 1, 8, [.nilFunc], 0⟩),
  (128, ⟨.func #[47, 3] #[3] false, 1, 8, [.nilFunc], 0⟩),
  (130, ⟨.func #[52] #[4] false, 1, 8, [.nilFunc], 0⟩),
  (131, ⟨.slice 134, 1, 24, [.slice none 0 0], 3⟩),
  (134, ⟨.struct #[⟨"to", 3, 0, false, "", "bitcast/shortest", 0⟩, ⟨"cost", 3, 1, false, "", "bitcast/shortest", 8⟩], 2, 16, [.int .i64 0, .int .i64 0], 2⟩),
  (136, ⟨.func #[134, 134] #[3] false, 1, 8, [.nilFunc], 0⟩)]

theorem TOK.mk {P : Program} {t : Nat} {ti : TyI} (z : Value) (h : P.underlying t = some ti.desc) (hi : (P.info? t).map (fun i => (i.zero, i.size, i.bytes)) = some (some z, ti.size, ti.bytes)) (hz : z.cells = ti.zero.toArray) (hs : P.stoodInHeld t = false) (hk : KeyInfo P t ti.key) : TOK P t ti := by
  cases hx : P.info? t with
  | none => rw [hx] at hi; cases hi
  | some i =>
    rw [hx] at hi
    simp only [Option.map_some, Option.some.injEq, Prod.mk.injEq] at hi
    exact ⟨h, i, z, hx, hi.2.1, hi.2.2, hi.1, hz, hs, hk⟩
theorem hT : TabOK Try.prog T := by
  intro t ti h
  have h := look_mem h
  revert h
  suffices hs : ∀ p ∈ T, TOK Try.prog p.1 p.2 from fun h => hs (t, ti) h
  unfold T
  exact List.forall_mem_cons.2 ⟨TOK.mk (.int .i64 0) (by kernel_rfl) (by kernel_rfl) rfl (by kernel_rfl) ⟨keyOK_int (by kernel_rfl), zero_run (by kernel_rfl)⟩, 
    List.forall_mem_cons.2 ⟨TOK.mk (.bool false) (by kernel_rfl) (by kernel_rfl) rfl (by kernel_rfl) trivial, 
    List.forall_mem_cons.2 ⟨TOK.mk (.int .u8 0) (by kernel_rfl) (by kernel_rfl) rfl (by kernel_rfl) trivial, 
    List.forall_mem_cons.2 ⟨TOK.mk (.string ⟨#[]⟩) (by kernel_rfl) (by kernel_rfl) rfl (by kernel_rfl) trivial, 
    List.forall_mem_cons.2 ⟨TOK.mk (.int .u64 0) (by kernel_rfl) (by kernel_rfl) rfl (by kernel_rfl) trivial, 
    List.forall_mem_cons.2 ⟨TOK.mk (.slice none 0 0) (by kernel_rfl) (by kernel_rfl) rfl (by kernel_rfl) (zero_run (by kernel_rfl)), 
    List.forall_mem_cons.2 ⟨TOK.mk (.pointer none) (by kernel_rfl) (by kernel_rfl) rfl (by kernel_rfl) trivial, 
    List.forall_mem_cons.2 ⟨TOK.mk (.slice none 0 0) (by kernel_rfl) (by kernel_rfl) rfl (by kernel_rfl) (zero_run (by kernel_rfl)), 
    List.forall_mem_cons.2 ⟨TOK.mk (.slice none 0 0) (by kernel_rfl) (by kernel_rfl) rfl (by kernel_rfl) (zero_run (by kernel_rfl)), 
    List.forall_mem_cons.2 ⟨TOK.mk (.agg #[.slice none 0 0, .slice none 0 0]) (by kernel_rfl) (by kernel_rfl) rfl (by kernel_rfl) trivial, 
    List.forall_mem_cons.2 ⟨TOK.mk (.slice none 0 0) (by kernel_rfl) (by kernel_rfl) rfl (by kernel_rfl) (zero_run (by kernel_rfl)), 
    List.forall_mem_cons.2 ⟨TOK.mk (.int .i64 0) (by kernel_rfl) (by kernel_rfl) rfl (by kernel_rfl) ⟨keyOK_int (by kernel_rfl), zero_run (by kernel_rfl)⟩, 
    List.forall_mem_cons.2 ⟨TOK.mk (.agg #[.int .i64 0, .int .i64 0, .int .i64 0, .int .i64 0]) (by kernel_rfl) (by kernel_rfl) rfl (by kernel_rfl) trivial, 
    List.forall_mem_cons.2 ⟨TOK.mk (.slice none 0 0) (by kernel_rfl) (by kernel_rfl) rfl (by kernel_rfl) (zero_run (by kernel_rfl)), 
    List.forall_mem_cons.2 ⟨TOK.mk (.agg #[.slice none 0 0, .int .i64 0]) (by kernel_rfl) (by kernel_rfl) rfl (by kernel_rfl) trivial, 
    List.forall_mem_cons.2 ⟨TOK.mk (.agg #[.int .i64 0, .bool false]) (by kernel_rfl) (by kernel_rfl) rfl (by kernel_rfl) trivial, 
    List.forall_mem_cons.2 ⟨TOK.mk (.nilFunc) (by kernel_rfl) (by kernel_rfl) rfl (by kernel_rfl) trivial, 
    List.forall_mem_cons.2 ⟨TOK.mk (.nilFunc) (by kernel_rfl) (by kernel_rfl) rfl (by kernel_rfl) trivial, 
    List.forall_mem_cons.2 ⟨TOK.mk (.agg #[.int .i64 0, .int .i64 0, .int .i64 0, .int .i64 0, .int .i64 0]) (by kernel_rfl) (by kernel_rfl) rfl (by kernel_rfl) trivial, 
    List.forall_mem_cons.2 ⟨TOK.mk (.slice none 0 0) (by kernel_rfl) (by kernel_rfl) rfl (by kernel_rfl) (zero_run (by kernel_rfl)), 
    List.forall_mem_cons.2 ⟨TOK.mk (.map none) (by kernel_rfl) (by kernel_rfl) rfl (by kernel_rfl) trivial, 
    List.forall_mem_cons.2 ⟨TOK.mk (.map none) (by kernel_rfl) (by kernel_rfl) rfl (by kernel_rfl) trivial, 
    List.forall_mem_cons.2 ⟨TOK.mk (.agg #[.int .i64 0, .int .i64 0]) (by kernel_rfl) (by kernel_rfl) rfl (by kernel_rfl) (keyOK_pair (f0 := ⟨"Router", 3, 0, false, "", "", 0⟩) (f1 := ⟨"Rank", 3, 1, false, "", "", 8⟩) (by kernel_rfl) (by kernel_rfl) (by kernel_rfl) (by kernel_rfl) rfl rfl (by decide) (by decide)), 
    List.forall_mem_cons.2 ⟨TOK.mk (.agg #[.int .i64 0, .int .i64 0]) (by kernel_rfl) (by kernel_rfl) rfl (by kernel_rfl) (keyOK_pair (f0 := ⟨"From", 3, 0, false, "", "", 0⟩) (f1 := ⟨"To", 3, 1, false, "", "", 8⟩) (by kernel_rfl) (by kernel_rfl) (by kernel_rfl) (by kernel_rfl) rfl rfl (by decide) (by decide)), 
    List.forall_mem_cons.2 ⟨TOK.mk (.map none) (by kernel_rfl) (by kernel_rfl) rfl (by kernel_rfl) trivial, 
    List.forall_mem_cons.2 ⟨TOK.mk (.agg #[.int .i64 0, .int .i64 0, .int .i64 0]) (by kernel_rfl) (by kernel_rfl) rfl (by kernel_rfl) trivial, 
    List.forall_mem_cons.2 ⟨TOK.mk (.slice none 0 0) (by kernel_rfl) (by kernel_rfl) rfl (by kernel_rfl) (zero_run (by kernel_rfl)), 
    List.forall_mem_cons.2 ⟨TOK.mk (.int .u64 0) (by kernel_rfl) (by kernel_rfl) rfl (by kernel_rfl) trivial, 
    List.forall_mem_cons.2 ⟨TOK.mk (.nilFunc) (by kernel_rfl) (by kernel_rfl) rfl (by kernel_rfl) trivial, 
    List.forall_mem_cons.2 ⟨TOK.mk (.slice none 0 0) (by kernel_rfl) (by kernel_rfl) rfl (by kernel_rfl) (zero_run (by kernel_rfl)), 
    List.forall_mem_cons.2 ⟨TOK.mk (.agg #[.int .i64 0, .int .i64 0]) (by kernel_rfl) (by kernel_rfl) rfl (by kernel_rfl) (keyOK_pair (f0 := ⟨"Router", 3, 0, false, "", "", 0⟩) (f1 := ⟨"Cost", 3, 1, false, "", "", 8⟩) (by kernel_rfl) (by kernel_rfl) (by kernel_rfl) (by kernel_rfl) rfl rfl (by decide) (by decide)), 
    List.forall_mem_cons.2 ⟨TOK.mk (.int .u64 0) (by kernel_rfl) (by kernel_rfl) rfl (by kernel_rfl) trivial, 
    List.forall_mem_cons.2 ⟨TOK.mk (.map none) (by kernel_rfl) (by kernel_rfl) rfl (by kernel_rfl) trivial, 
    List.forall_mem_cons.2 ⟨TOK.mk (.agg #[.map none, .map none]) (by kernel_rfl) (by kernel_rfl) rfl (by kernel_rfl) trivial, 
    List.forall_mem_cons.2 ⟨TOK.mk (.nilFunc) (by kernel_rfl) (by kernel_rfl) rfl (by kernel_rfl) trivial, 
    List.forall_mem_cons.2 ⟨TOK.mk (.nilFunc) (by kernel_rfl) (by kernel_rfl) rfl (by kernel_rfl) trivial, 
    List.forall_mem_cons.2 ⟨TOK.mk (.nilFunc) (by kernel_rfl) (by kernel_rfl) rfl (by kernel_rfl) trivial, 
    List.forall_mem_cons.2 ⟨TOK.mk (.slice none 0 0) (by kernel_rfl) (by kernel_rfl) rfl (by kernel_rfl) (zero_run (by kernel_rfl)), 
    List.forall_mem_cons.2 ⟨TOK.mk (.agg #[.int .i64 0, .int .i64 0]) (by kernel_rfl) (by kernel_rfl) rfl (by kernel_rfl) (keyOK_pair (f0 := ⟨"to", 3, 0, false, "", "bitcast/shortest", 0⟩) (f1 := ⟨"cost", 3, 1, false, "", "bitcast/shortest", 8⟩) (by kernel_rfl) (by kernel_rfl) (by kernel_rfl) (by kernel_rfl) rfl rfl (by decide) (by decide)), 
    List.forall_mem_cons.2 ⟨TOK.mk (.nilFunc) (by kernel_rfl) (by kernel_rfl) rfl (by kernel_rfl) trivial, 
    fun _ h => absurd h List.not_mem_nil⟩⟩⟩⟩⟩⟩⟩⟩⟩⟩⟩⟩⟩⟩⟩⟩⟩⟩⟩⟩⟩⟩⟩⟩⟩⟩⟩⟩⟩⟩⟩⟩⟩⟩⟩⟩⟩⟩⟩⟩
end Go.Proofs.Ytahhejlpmacloaa

namespace Go.Proofs.Ytahhejlpmacloaa
open Go Go.Eng

def iv (x : Int) : AV := .one (.c (.val (.int .i64 x)))

def cut (x n : Int) : Int := if n < 1 then 0 else if x.tmod n < 0 then IntKind.i64.wrap (x.tmod n + n) else x.tmod n

def spCut : FSpec
  | [.one (.c (.val (.int .i64 x))), .one (.c (.val (.int .i64 n)))], [] => some ⟨[], iv (cut x n), []⟩
  | _, _ => none

def G0 : List (Nat × FSpec) := []
theorem hG0 : GOK Try.prog G0 := fun g sp h => by simp [G0, Eng.look] at h

theorem cut_holds : Holds Try.prog 26 spCut := by
  refine Holds.of hT Try.func26 rfl 16 rfl fun args bs out h hc => ?_
  unfold spCut at h
  split at h
  · rename_i x n
    simp only [Option.some.injEq] at h
    subst h
    refine ⟨by simp, by simp [Res.live], fun F hF => ?_⟩
    refine W.seqR hT hG0 rfl trivial ?_
    refine W.seq (W.seqR hT hG0 rfl ⟨rfl, trivial⟩ (W.cond rfl (fun h1 => ?_) (fun h1 => W.skip ?_)))
    · have h1 := of_decide_eq_true h1
      refine W.seqR hT hG0 rfl trivial (W.ret ⟨_, [], rfl, rfl, ⟨?_, trivial⟩, trivial, rfl, rfl, rfl⟩)
      show Value.int _ _ = Value.int _ _
      rw [cut, if_pos h1]
    · have h1 := of_decide_eq_false h1
      refine W.seqR hT hG0 rfl ⟨rfl, by omega, trivial⟩ ?_
      refine W.seq (W.seqR hT hG0 rfl ⟨rfl, trivial⟩ (W.cond rfl (fun h2 => ?_) (fun h2 => W.skip ?_)))
      · have h2 := of_decide_eq_true h2
        refine W.region hT hG0 rfl ⟨rfl, trivial⟩ ?_
        refine W.seqR hT hG0 rfl trivial (W.ret ⟨_, [], rfl, rfl, ⟨?_, trivial⟩, trivial, rfl, rfl, rfl⟩)
        show Value.int _ _ = Value.int _ _
        rw [cut, if_neg h1, if_pos h2]
      · have h2 := of_decide_eq_false h2
        refine W.seqR hT hG0 rfl trivial (W.ret ⟨_, [], rfl, rfl, ⟨?_, trivial⟩, trivial, rfl, rfl, rfl⟩)
        show Value.int _ _ = Value.int _ _
        rw [cut, if_neg h1, if_neg h2]
  · cases h
end Go.Proofs.Ytahhejlpmacloaa

/- The walks of the drawing functions. -/
namespace Go.Proofs.Ytahhejlpmacloaa
open Go Go.Eng

theorem wi {n : Int} (h : -9223372036854775808 ≤ n ∧ n ≤ 9223372036854775807) : IntKind.i64.wrap n = n := IntWalk.i64_in n h

theorem hmix : Try.prog.follows .mixedOrders = true := by kernel_rfl

def cellI : Cell → Int
  | .val (.int _ x) => x
  | _ => 0

def isI (c : Cell) : Prop := c = .val (.int .i64 (cellI c))

def rawV (n : Nat) (get : Nat → Nat → Cell) (at_ : Int) : Int := if at_ < n then cellI (get at_.toNat 0) else 0
def rawA (n : Nat) (at_ : Int) : Int := if at_ < n then at_ + 1 else at_

def spRaw : FSpec
  | [.one (.ptr 0 0)], [.box 44 [.c (.sl n 1 get), .c (.val (.int .i64 at_))]] =>
    some ⟨[∀ i, i < n → isI (get i 0), 0 ≤ at_ ∧ n ≤ 600], iv (rawV n get at_), [(0, .box 44 [.c (.sl n 1 get), .c (.val (.int .i64 (rawA n at_)))])]⟩
  | _, _ => none

theorem raw_holds : Holds Try.prog 27 spRaw := by
  refine Holds.of hT Try.func27 rfl 31 rfl fun args bs out h hc => ?_
  unfold spRaw at h
  split at h
  · rename_i n get at_
    simp only [Option.some.injEq] at h
    subst h
    obtain ⟨hI, ⟨h0, hn⟩, _⟩ := hc
    refine ⟨by simp, by simp [Res.live], fun F hF => ?_⟩
    refine W.seqR hT hG0 rfl trivial ?_
    refine W.seq (W.seq (W.regionDraw hT hG0 rfl rfl hmix ?_ ?_))
    · exact ⟨rfl, trivial⟩
    refine W.cond rfl (fun h1 => ?_) (fun h1 => W.skip ?_)
    · have h1 := of_decide_eq_true h1
      refine W.seqR hT hG0 rfl trivial (W.ret ⟨_, [(0, some 0)], rfl, rfl, ⟨?_, trivial⟩, ⟨⟨rfl, cellM.refl _, ?_, trivial⟩, trivial⟩, rfl, rfl, rfl⟩)
      · show Value.int .i64 0 = Value.int .i64 (rawV n get at_)
        rw [rawV, if_neg (by omega)]
      · show Value.int .i64 at_ = Value.int .i64 (rawA n at_)
        rw [rawA, if_neg (by omega)]
    · have h1 := of_decide_eq_false h1
      have hw : IntKind.i64.wrap (at_ + 1) = at_ + 1 := wi (by omega)
      have hw' : IntKind.i64.wrap (IntKind.i64.wrap (at_ + 1) - 1) = at_ := by rw [hw, wi (by omega)]; omega
      refine W.seqR hT hG0 rfl ⟨rfl, trivial⟩ ?_
      refine W.seq (W.regionDraw hT hG0 rfl rfl hmix ?_ ?_)
      · exact ⟨rfl, by rw [hw']; omega, by rw [hw']; omega, trivial⟩
      · refine W.ret ⟨_, [(0, some 0)], rfl, rfl, ⟨?_, trivial⟩, ⟨⟨rfl, cellM.refl _, ?_, trivial⟩, trivial⟩, rfl, rfl, rfl⟩
        · show cellM (get (IntKind.i64.wrap (IntKind.i64.wrap (at_ + 1) - 1)).toNat 0) (.val (.int .i64 (rawV n get at_)))
          rw [hw', rawV, if_pos (by omega), ← hI at_.toNat (by omega)]
          exact cellM.refl _
        · show Value.int .i64 (IntKind.i64.wrap (at_ + 1)) = Value.int .i64 (rawA n at_)
          rw [rawA, if_pos (by omega), hw]
  · cases h

theorem rawA_nonneg {n : Nat} {at_ : Int} (h : 0 ≤ at_) : 0 ≤ rawA n at_ := by
  unfold rawA
  split <;> omega

def G1 : List (Nat × FSpec) := [(26, spCut), (27, spRaw)]
theorem hG1 : GOK Try.prog G1 := GOK.cons (enters Try.func26 rfl (by kernel_rfl)) cut_holds (GOK.cons (enters Try.func27 rfl (by kernel_rfl)) raw_holds hG0)

def tapeB (n : Nat) (get : Nat → Nat → Cell) (at_ : Int) : Res := .box 44 [.c (.sl n 1 get), .c (.val (.int .i64 at_))]
def tapeC (n : Nat) (get : Nat → Nat → Cell) (at_ : Int) : Prop := (∀ i, i < n → isI (get i 0)) ∧ 0 ≤ at_ ∧ n ≤ 600

def spNext : FSpec
  | [.one (.ptr 0 0), .one (.c (.val (.int .i64 k)))], [.box 44 [.c (.sl n 1 get), .c (.val (.int .i64 at_))]] =>
    some ⟨[tapeC n get at_], iv (cut (rawV n get at_) k), [(0, .box 44 [.c (.sl n 1 get), .c (.val (.int .i64 (rawA n at_)))])]⟩
  | _, _ => none

theorem next_holds : Holds Try.prog 15 spNext := by
  refine Holds.of hT Try.func15 rfl 9 rfl fun args bs out h hc => ?_
  unfold spNext at h
  split at h
  · rename_i k n get at_
    simp only [Option.some.injEq] at h
    subst h
    obtain ⟨⟨hI, h0, hn⟩, _⟩ := hc
    refine ⟨by simp, by simp [Res.live], fun F hF => ?_⟩
    refine W.seqR hT hG1 rfl trivial ?_
    refine W.seqR hT hG1 rfl ⟨hI, ⟨h0, hn⟩, trivial⟩ ?_
    exact W.ret ⟨_, [(0, some 0)], rfl, rfl, ⟨rfl, trivial⟩, ⟨⟨rfl, cellM.refl _, rfl, trivial⟩, trivial⟩, rfl, rfl, rfl⟩
  · cases h

def bv (b : Bool) : AV := .one (.c (.val (.bool b)))

theorem cut_range (x : Int) {n : Int} (h : 1 ≤ n) (hm : n ≤ 9223372036854775807) : 0 ≤ cut x n ∧ cut x n < n := by
  unfold cut
  rw [if_neg (by omega)]
  have h1 := Int.tmod_lt_of_pos x (b := n) (by omega)
  have h2 : -n < x.tmod n := by
    have := Int.tmod_lt_of_pos (-x) (b := n) (by omega)
    rw [Int.neg_tmod] at this
    omega
  split
  · rw [wi (by omega)]; omega
  · omega

def G2 : List (Nat × FSpec) := (15, spNext) :: G1
theorem hG2 : GOK Try.prog G2 := GOK.cons (enters Try.func15 rfl (by kernel_rfl)) next_holds hG1

def rangeV (n : Nat) (get : Nat → Nat → Cell) (at_ lo hi : Int) : Int := IntKind.i64.wrap (lo + cut (rawV n get at_) (IntKind.i64.wrap (IntKind.i64.wrap (hi - lo) + 1)))

def spRange : FSpec
  | [.one (.ptr 0 0), .one (.c (.val (.int .i64 lo))), .one (.c (.val (.int .i64 hi)))], [.box 44 [.c (.sl n 1 get), .c (.val (.int .i64 at_))]] =>
    some ⟨[tapeC n get at_], iv (rangeV n get at_ lo hi), [(0, .box 44 [.c (.sl n 1 get), .c (.val (.int .i64 (rawA n at_)))])]⟩
  | _, _ => none

theorem range_holds : Holds Try.prog 12 spRange := by
  refine Holds.of hT Try.func12 rfl 15 rfl fun args bs out h hc => ?_
  unfold spRange at h
  split at h
  · rename_i lo hi n get at_
    simp only [Option.some.injEq] at h
    subst h
    refine ⟨by simp, by simp [Res.live], fun F hF => ?_⟩
    refine W.seqR hT hG2 rfl trivial ?_
    refine W.seqR hT hG2 rfl ⟨rfl, rfl, hc.1, rfl, trivial⟩ ?_
    exact W.ret ⟨_, [(0, some 0)], rfl, rfl, ⟨rfl, trivial⟩, ⟨⟨rfl, cellM.refl _, rfl, trivial⟩, trivial⟩, rfl, rfl, rfl⟩
  · cases h

def oneV (n : Nat) (get : Nat → Nat → Cell) (at_ k : Int) : Bool := decide (cut (rawV n get at_) k = IntKind.i64.wrap (k - 1))

def spOne : FSpec
  | [.one (.ptr 0 0), .one (.c (.val (.int .i64 k)))], [.box 44 [.c (.sl n 1 get), .c (.val (.int .i64 at_))]] =>
    some ⟨[tapeC n get at_], bv (oneV n get at_ k), [(0, .box 44 [.c (.sl n 1 get), .c (.val (.int .i64 (rawA n at_)))])]⟩
  | _, _ => none

theorem one_holds : Holds Try.prog 14 spOne := by
  refine Holds.of hT Try.func14 rfl 11 rfl fun args bs out h hc => ?_
  unfold spOne at h
  split at h
  · rename_i k n get at_
    simp only [Option.some.injEq] at h
    subst h
    refine ⟨by simp, by simp [Res.live], fun F hF => ?_⟩
    refine W.seqR hT hG2 rfl trivial ?_
    refine W.seqR hT hG2 rfl ⟨hc.1, rfl, rfl, trivial⟩ ?_
    exact W.ret ⟨_, [(0, some 0)], rfl, rfl, ⟨rfl, trivial⟩, ⟨⟨rfl, cellM.refl _, rfl, trivial⟩, trivial⟩, rfl, rfl, rfl⟩
  · cases h

def pickV (n : Nat) (get : Nat → Nat → Cell) (at_ : Int) (m : Nat) (g : Nat → Nat → Cell) : Int := cellI (g (cut (rawV n get at_) m).toNat 0)

def spPick : FSpec
  | [.one (.ptr 0 0), .one (.c (.sl m 1 g))], [.box 44 [.c (.sl n 1 get), .c (.val (.int .i64 at_))]] =>
    some ⟨[tapeC n get at_, 0 < m ∧ m ≤ 600 ∧ ∀ i, i < m → isI (g i 0)], iv (pickV n get at_ m g), [(0, .box 44 [.c (.sl n 1 get), .c (.val (.int .i64 (rawA n at_)))])]⟩
  | _, _ => none

theorem pick_holds : Holds Try.prog 13 spPick := by
  refine Holds.of hT Try.func13 rfl 12 rfl fun args bs out h hc => ?_
  unfold spPick at h
  split at h
  · rename_i m g n get at_
    simp only [Option.some.injEq] at h
    subst h
    obtain ⟨hc1, ⟨h0, hm, hg⟩, _⟩ := hc
    have hr := cut_range (rawV n get at_) (n := m) (by omega) (by omega)
    refine ⟨by simp, by simp [Res.live], fun F hF => ?_⟩
    refine W.seqR hT hG2 rfl trivial ?_
    refine W.seqR hT hG2 rfl ⟨hc1, hr.1, hr.2, trivial⟩ ?_
    refine W.ret ⟨_, [(0, some 0)], rfl, rfl, ⟨?_, trivial⟩, ⟨⟨rfl, cellM.refl _, rfl, trivial⟩, trivial⟩, rfl, rfl, rfl⟩
    show cellM (g (cut (rawV n get at_) m).toNat 0) (.val (.int .i64 (pickV n get at_ m g)))
    rw [pickV, ← hg _ (by omega)]
    exact cellM.refl _
  · cases h
end Go.Proofs.Ytahhejlpmacloaa

/- The walk of the ordering of the links. -/
namespace Go.Proofs.Ytahhejlpmacloaa
open Go Go.Eng

/-- A link, its five numbers. -/
structure Lk where
  a : Int
  b : Int
  ca : Int
  cb : Int
  cap : Int

def Lk.fld (l : Lk) : Nat → Int
  | 0 => l.a
  | 1 => l.b
  | 2 => l.ca
  | 3 => l.cb
  | _ => l.cap

def lkAt (l : List Lk) (i : Nat) : Lk := l.getD i ⟨0, 0, 0, 0, 0⟩
def lkG (l : List Lk) (i j : Nat) : Cell := .val (.int .i64 ((lkAt l i).fld j))
def lks (n : Nat) (g : Nat → Nat → Cell) : List Lk := (List.range n).map fun i => ⟨cellI (g i 0), cellI (g i 1), cellI (g i 2), cellI (g i 3), cellI (g i 4)⟩

theorem lks_at {n : Nat} {g : Nat → Nat → Cell} {i : Nat} (hi : i < n) : lkAt (lks n g) i = ⟨cellI (g i 0), cellI (g i 1), cellI (g i 2), cellI (g i 3), cellI (g i 4)⟩ := by
  simp [lkAt, lks, hi]
theorem lks_length (n : Nat) (g : Nat → Nat → Cell) : (lks n g).length = n := by simp [lks]
theorem lks_cell {n : Nat} {g : Nat → Nat → Cell} (hg : ∀ i, i < n → ∀ j, j < 5 → isI (g i j)) : ∀ i, i < n → ∀ j, j < 5 → cellM (g i j) (lkG (lks n g) i j) := by
  intro i hi j hj
  have e : lkG (lks n g) i j = g i j := by
    rw [lkG, lks_at hi, hg i hi j hj]
    match j, hj with
    | 0, _ => rfl
    | 1, _ => rfl
    | 2, _ => rfl
    | 3, _ => rfl
    | 4, _ => rfl
  rw [e]
  exact cellM.refl _

def lkLess (x y : Lk) : Bool := decide (x.a < y.a) || (decide (x.a = y.a) && decide (x.b < y.b))

def cutAt (l : List Lk) (x : Lk) : Nat := (l.takeWhile fun y => lkLess y x).length
def insL (l : List Lk) (x : Lk) : List Lk := l.take (cutAt l x) ++ x :: l.drop (cutAt l x)
def orderL (l : List Lk) : List Lk := l.foldl insL []

def spOrder : FSpec
  | [.one (.c (.sl n 5 g))], [] => some ⟨[n ≤ 600, ∀ i, i < n → ∀ j, j < 5 → isI (g i j)], .one (.own 0), [(0, .row 52 5 n (lkG (orderL (lks n g))))]⟩
  | _, _ => none

theorem cutAt_eq {L : List Lk} {x : Lk} : ∀ {k : Nat}, k ≤ L.length → (∀ j, j < k → lkLess (lkAt L j) x = true) → (decide (k < L.length) && lkLess (lkAt L k) x) = false → cutAt L x = k := by
  induction L with
  | nil =>
    intro k hk _ _
    have : k = 0 := by simpa using hk
    subst this
    rfl
  | cons y L ih =>
    intro k hk h1 h2
    cases k with
    | zero =>
      have : lkLess y x = false := by simpa [lkAt] using h2
      simp [cutAt, List.takeWhile, this]
    | succ k =>
      have hy : lkLess y x = true := by simpa [lkAt] using h1 0 (by omega)
      have := ih (k := k) (by simpa using hk) (fun j hj => by simpa [lkAt] using h1 (j + 1) (by omega)) (by simpa [lkAt] using h2)
      simp only [cutAt, List.takeWhile, hy, List.length_cons] at this ⊢
      omega

theorem insL_length (L : List Lk) (x : Lk) : (insL L x).length = L.length + 1 := by
  simp [insL]
  omega

theorem orderL_length (l : List Lk) : (orderL l).length = l.length := by
  have : ∀ (l acc : List Lk), (l.foldl insL acc).length = acc.length + l.length := by
    intro l
    induction l with
    | nil => intro acc; simp
    | cons x l ih => intro acc; simp only [List.foldl_cons, ih, insL_length, List.length_cons]; omega
  simp [orderL, this]

theorem orderL_step {l : List Lk} {i : Nat} (hi : i < l.length) : orderL (l.take (i + 1)) = insL (orderL (l.take i)) (lkAt l i) := by
  rw [List.take_succ_eq_append_getElem hi, orderL, List.foldl_append]
  simp [orderL, lkAt, hi]

theorem insL_cell {L : List Lk} {x : Lk} {k : Nat} (hk : k ≤ L.length) (hc : cutAt L x = k) {cs : List Cell} (hx : cs = [.val (.int .i64 x.a), .val (.int .i64 x.b), .val (.int .i64 x.ca), .val (.int .i64 x.cb), .val (.int .i64 x.cap)]) :
    ∀ i, i < k + 1 + (L.length - k) → ∀ j, j < 5 → joinGet (k + 1) (joinGet k (fun i => lkG L (0 + i)) (cellAt cs 5)) (fun i => lkG L (k + i)) i j = lkG (insL L x) i j := by
  intro i hi j hj
  subst hx
  unfold joinGet lkG insL
  rw [hc]
  rcases Nat.lt_trichotomy i k with h | h | h
  · rw [if_pos (by omega), if_pos h]
    have : lkAt (L.take k ++ x :: L.drop k) i = lkAt L i := by
      simp [lkAt, List.getElem?_append, Nat.min_eq_left hk, h, show i < L.length from by omega]
    rw [this]
    simp only [Nat.zero_add]
  · subst h
    rw [if_pos (by omega), if_neg (by omega)]
    have : lkAt (L.take i ++ x :: L.drop i) i = x := by
      simp [lkAt, Nat.min_eq_left hk]
    rw [this, Nat.sub_self]
    match j, hj with
    | 0, _ => rfl
    | 1, _ => rfl
    | 2, _ => rfl
    | 3, _ => rfl
    | 4, _ => rfl
  · rw [if_neg (by omega)]
    have : lkAt (L.take k ++ x :: L.drop k) i = lkAt L (k + (i - (k + 1))) := by
      have hm : min k L.length = k := Nat.min_eq_left hk
      obtain ⟨d, rfl⟩ : ∃ d, i = k + 1 + d := ⟨i - (k + 1), by omega⟩
      simp only [lkAt, List.getD_eq_getElem?_getD]
      rw [List.getElem?_append_right (by simp; omega)]
      simp [hm, show k + 1 + d - k = d + 1 from by omega, show k + 1 + d - (k + 1) = d from by omega]
    rw [this]

/-- The state at the outer round. -/
def oI (n : Nat) (ls : List Lk) (i : Nat) (l : List Lk) : St := ⟨[(0, .one (.c (.sl n 5 (lkG ls)))), (4, iv i), (3, .one (.own 0))], [(0, .row 52 5 l.length (lkG l))]⟩

set_option maxRecDepth 100000 in
set_option maxHeartbeats 4000000 in
theorem order_holds : Holds Try.prog 16 spOrder := by
  refine Holds.of hT Try.func16 rfl 76 rfl fun args bs out h hc => ?_
  unfold spOrder at h
  split at h
  · rename_i n g
    simp only [Option.some.injEq] at h
    subst h
    obtain ⟨hn, hg, _⟩ := hc
    refine ⟨by simp, by simp [Res.live], fun F hF => ?_⟩
    refine W.seqR hT hG0 rfl trivial ?_
    refine W.seqR hT hG0 rfl trivial ?_
    refine W.seq (W.seqR hT hG0 rfl trivial ?_)
    refine W.block (W.loop (γ := { x : Nat // x ≤ n }) (fun x => oI n (lks n g) x.1 (orderL ((lks n g).take x.1))) 1 (fun x => n - x.1) ⟨0, Nat.zero_le _⟩ [(0, none)] ?_ ?_)
    · exact ⟨by rw [hF]; rfl, ⟨⟨rfl, rfl, fun i hi j hj => lks_cell hg i hi j hj⟩, rfl, rfl, trivial⟩, ⟨rfl, trivial⟩, rfl, rfl, rfl⟩
    rintro ⟨i, hi⟩
    refine W.seq (W.seqR hT hG0 rfl ⟨rfl, trivial⟩ (W.cond rfl (fun h1 => W.skip ?_) (fun h1 => W.exit ?_)))
    · have h1 : i < n := by have := of_decide_eq_true h1; simpa using this
      generalize hL : orderL ((lks n g).take i) = L
      have hLl : L.length = i := by rw [← hL, orderL_length, List.length_take, lks_length]; omega
      refine W.seq (W.block (W.seqR hT hG0 rfl trivial (W.seq ?_)))
      refine W.block (W.loop (γ := { k : Nat // k ≤ L.length ∧ ∀ j, j < k → lkLess (lkAt L j) (lkAt (lks n g) i) = true }) (fun k => ⟨[(0, .one (.c (.sl n 5 (lkG (lks n g))))), (4, iv i), (3, .one (.own 0)), (5, iv k.1)], [(0, .row 52 5 L.length (lkG L))]⟩) 1 (fun k => L.length - k.1) ⟨0, Nat.zero_le _, fun j hj => by omega⟩ [(0, some 0)] ?_ ?_)
      · exact ⟨by rw [hF]; rfl, ⟨cellM.refl _, rfl, rfl, rfl, trivial⟩, ⟨⟨rfl, rfl, rfl, fun _ _ _ _ => cellM.refl _⟩, trivial⟩, rfl, rfl, rfl⟩
      rintro ⟨k, hk, hkl⟩
      refine W.seq (W.seq (W.regionDraw hT hG0 (by repeat (first | exact runIt_nil | (apply runIt_cons; exact rfl))) (by kernel_rfl) hmix (by exact ⟨rfl, fun _ => trivial, fun _ => trivial, fun h => ⟨h, h, by omega, by simp_all, trivial⟩, fun h => ⟨h, trivial⟩, fun h => ⟨h, by simp_all, trivial⟩, fun _ => trivial, fun _ => trivial, fun h => ⟨h, h, by omega, by omega, trivial⟩, fun h => ⟨h, trivial⟩, fun h => ⟨h, trivial⟩, fun h => ⟨h, h, rfl, trivial⟩, fun _ => trivial, fun _ => trivial, fun _ => trivial, fun h => ⟨h, h, by omega, by simp_all, trivial⟩, fun h => ⟨h, trivial⟩, fun h => ⟨h, by simp_all, trivial⟩, fun _ => trivial, fun _ => trivial, fun h => ⟨h, h, by omega, by omega, trivial⟩, fun h => ⟨h, trivial⟩, fun h => ⟨h, trivial⟩, fun h => ⟨h, h, rfl, trivial⟩, fun _ => trivial, fun _ => trivial, fun _ => trivial, fun h => ⟨h, h, by omega, by simp_all, trivial⟩, fun h => ⟨h, trivial⟩, fun h => ⟨h, by simp_all, trivial⟩, fun _ => trivial, fun _ => trivial, fun h => ⟨h, h, by omega, by omega, trivial⟩, fun h => ⟨h, trivial⟩, fun h => ⟨h, trivial⟩, fun h => ⟨h, h, rfl, trivial⟩, fun h => ⟨by simp_all, by simp_all, by simp_all, trivial⟩, fun h => ⟨by simp_all, by simp_all, by simp_all, trivial⟩, fun h => h, fun _ => rfl, trivial⟩) ?_))
      have test : ∀ {b : Bool}, (if decide ((k : Int) < (L.length : Int)) = true then (if decide ((lkAt L (k : Int).toNat).a < (lkAt (lks n g) (i : Int).toNat).a) = true then true else
          if ((lkAt L (k : Int).toNat).a == (lkAt (lks n g) (i : Int).toNat).a) = true then decide ((lkAt L (k : Int).toNat).b < (lkAt (lks n g) (i : Int).toNat).b) else false) else false) = b →
          (decide (k < L.length) && lkLess (lkAt L k) (lkAt (lks n g) i)) = b := by
        intro b hb
        rw [← hb]
        simp only [Int.toNat_natCast, lkLess]
        by_cases h1 : k < L.length <;> by_cases h2 : (lkAt L k).a < (lkAt (lks n g) i).a <;> by_cases h3 : (lkAt L k).a = (lkAt (lks n g) i).a <;> simp [h1, h2, h3]
      refine W.cond rfl (fun h2 => W.skip ?_) (fun h2 => W.exit ?_)
      · have h2 := test h2
        simp only [Bool.and_eq_true, decide_eq_true_eq] at h2
        refine W.block (W.region hT hG0 rfl ⟨rfl, trivial⟩ ?_)
        refine ⟨⟨k + 1, by omega, fun j hj => ?_⟩, [(0, some 0)], ⟨by rw [hF]; rfl, ⟨cellM.refl _, rfl, rfl, ?_, trivial⟩, ⟨⟨rfl, rfl, rfl, fun _ _ _ _ => cellM.refl _⟩, trivial⟩, rfl, rfl, rfl⟩, ?_⟩
        · rcases Nat.lt_or_ge j k with h | h
          · exact hkl j h
          · obtain rfl : j = k := by omega
            exact h2.2
        · show Value.int .i64 (IntKind.i64.wrap ((k : Int) + 1)) = Value.int .i64 ((k + 1 : Nat) : Int)
          rw [wi (by omega)]
          rfl
        · show L.length - (k + 1) < L.length - k
          omega
      · have h2 := test h2
        refine W.seqR hT hG0 rfl trivial ?_
        refine W.seqR hT hG0 rfl ⟨by omega, by omega, Int.ofNat_le.2 hk, ?_, ?_, trivial⟩ ?_
        · show ((k : Int) - 0).toNat ≤ 9223372036854775807
          omega
        · show ((k : Int) - 0).toNat * 40 ≤ 140737488355328
          omega
        refine W.seqR hT hG0 rfl ⟨by omega, by omega, ?_, ?_, trivial⟩ ?_
        · show ((k : Int) - 0).toNat + 1 ≤ 9223372036854775807
          omega
        · show (((k : Int) - 0).toNat + 1) * 40 ≤ 140737488355328
          omega
        refine W.region hT hG0 rfl ⟨by omega, Int.ofNat_le.2 hk, by omega, ?_, ?_, trivial⟩ ?_
        · show ((k : Int) - 0).toNat + 1 + ((L.length : Int) - (k : Int)).toNat ≤ 9223372036854775807
          omega
        · show (((k : Int) - 0).toNat + 1 + ((L.length : Int) - (k : Int)).toNat) * 40 ≤ 140737488355328
          omega
        refine W.region hT hG0 rfl ⟨rfl, trivial⟩ ?_
        have hci := cutAt_eq hk hkl h2
        refine ⟨⟨i + 1, by omega⟩, [(0, some 993)], ⟨by rw [hF]; rfl, ⟨cellM.refl _, ?_, rfl, trivial⟩, ⟨⟨rfl, rfl, ?_, ?_⟩, trivial⟩, rfl, rfl, rfl⟩, ?_⟩
        · show Value.int .i64 (IntKind.i64.wrap ((i : Int) + 1)) = Value.int .i64 ((i + 1 : Nat) : Int)
          rw [wi (by omega)]
          rfl
        · show ((k : Int) - 0).toNat + 1 + ((L.length : Int) - (k : Int)).toNat = (orderL ((lks n g).take (i + 1))).length
          rw [orderL_length, List.length_take, lks_length]
          omega
        · show ∀ i', i' < (orderL ((lks n g).take (i + 1))).length → ∀ j, j < 5 → cellM (joinGet (((k : Int) - 0).toNat + 1) (joinGet ((k : Int) - 0).toNat (fun i => lkG L (Int.toNat 0 + i)) (cellAt [lkG (lks n g) ((i : Int).toNat) 0, lkG (lks n g) ((i : Int).toNat) 1, lkG (lks n g) ((i : Int).toNat) 2, lkG (lks n g) ((i : Int).toNat) 3, lkG (lks n g) ((i : Int).toNat) 4] 5)) (fun i => lkG L ((k : Int).toNat + i)) i' j) (lkG (orderL ((lks n g).take (i + 1))) i' j)
          rw [show ((k : Int) - 0).toNat = k from by omega, Int.toNat_natCast, Int.toNat_natCast, orderL_step (by rw [lks_length]; exact h1), hL]
          intro i' hi' j hj
          rw [insL_length] at hi'
          rw [show Int.toNat 0 = 0 from rfl, insL_cell (cs := [lkG (lks n g) i 0, lkG (lks n g) i 1, lkG (lks n g) i 2, lkG (lks n g) i 3, lkG (lks n g) i 4]) hk hci rfl i' (by omega) j hj]
          exact cellM.refl _
        · show n - (i + 1) < n - i
          omega
    · have h1 : i = n := by
        have := of_decide_eq_false h1
        have h1' : ¬ ((i : Int) < (n : Int)) := this
        omega
      subst h1
      show W _ _ _ _ _ _ _
      refine W.seqR hT hG0 rfl trivial ?_
      refine W.ret ⟨_, [(0, some 0)], rfl, rfl, ⟨rfl, trivial⟩, ⟨⟨rfl, rfl, ?_, ?_⟩, trivial⟩, rfl, rfl, rfl⟩
      · show (orderL ((lks i g).take i)).length = i
        rw [orderL_length, List.length_take, lks_length]
        omega
      · show ∀ i', i' < i → ∀ j, j < 5 → cellM (lkG (orderL ((lks i g).take i)) i' j) (lkG (orderL (lks i g)) i' j)
        rw [List.take_of_length_le (by rw [lks_length]; omega)]
        intro _ _ _ _
        exact cellM.refl _
  · cases h
end Go.Proofs.Ytahhejlpmacloaa
