/- A program logic over abstract states, part C: what one operation does to an abstract state. -/
import Derived.Test.YtahhejlpmacloaaPart01
import Derived.WalkKit
namespace Go.Eng
open Go

/-- What is known of a type: its form, its cells, its bytes, its zero value's cells. -/
structure TyI where
  desc : TypeDesc
  size : Nat
  bytes : Nat
  zero : List Value
  key : Nat

def TOK (P : Program) (t : Nat) (ti : TyI) : Prop :=
  P.underlying t = some ti.desc ∧ ∃ i z, P.info? t = some i ∧ i.size = ti.size ∧ i.bytes = ti.bytes ∧ i.zero = some z ∧ z.cells = ti.zero.toArray ∧ P.stoodInHeld t = false ∧ KeyInfo P t ti.key

def isAggD : TypeDesc → Bool
  | .struct _ => true
  | .array _ _ => true
  | _ => false

def constAV (v : Value) : Option AV :=
  match scal v with
  | true => some (.one (.c (.val v)))
  | false => match v with
    | .slice none 0 0 => some (.one .nil)
    | _ => some .un

def opnd (s : St) : Operand → Option AV
  | .tmp t => look s.env t
  | .const v => constAV v
  | .func f => some (.one (.clo f []))
  | .global _ => none

def All : List Prop → Prop
  | [] => True
  | p :: l => p ∧ All l
theorem All.app {l l' : List Prop} (h : All (l ++ l')) : All l ∧ All l' := by
  induction l with
  | nil => exact ⟨trivial, h⟩
  | cons p l ih => exact ⟨⟨h.1, (ih h.2).1⟩, (ih h.2).2⟩

/-- An operand's value; where it was computed under a guard: that the guard held. -/
def arg (s : St) (x : Operand) : Option (List Prop × AV) :=
  match opnd s x with
  | some (.gd b v) => some ([b = true], v)
  | some v => some ([], v)
  | none => none

theorem All.join {l l' : List Prop} (h : All l) (h' : All l') : All (l ++ l') := by
  induction l with
  | nil => exact h'
  | cons p l ih => exact ⟨h.1, ih h.2⟩

structure Eff where
  cond : List Prop
  val : AV
  mem : List (Nat × Res)

def toCell (mem : List (Nat × Res)) : AC → Option (Cell × List (Nat × Res))
  | .c x => some (x, [])
  | .nil => some (.sl 0 1 (fun _ _ => .val (.bool false)), [])
  | .own m => match look mem m with
    | some (.row _ sz n get) => some (.sl n sz get, [(m, .frz n sz get)])
    | some (.frz n sz get) => some (.sl n sz get, [])
    | _ => none
  | .mel _ g k => match look mem g with
    | some (.grp _ sz f) => some (.sl (f k).1 sz (f k).2, [(g, .dead)])
    | _ => none
  | .ptr _ _ => none
  | .pst _ _ => none
  | .pow _ _ _ _ => none
  | .clo _ _ => none
  | .map _ => none
  | .pel _ _ _ _ _ => none
  | .it _ => none
  | .any => none

def toCells (mem : List (Nat × Res)) : List AC → Option (List Cell × List (Nat × Res))
  | [] => some ([], [])
  | a :: l => match toCell mem a with
    | some (x, d) => match toCells (d ++ mem) l with
      | some (xs, d') => some (x :: xs, d' ++ d)
      | none => none
    | none => none

def AV.cells : AV → Option (List AC)
  | .one a => some [a]
  | .agg l => some l
  | _ => none

def acOf (v : Value) : Option AC :=
  match scal v with
  | true => some (.c (.val v))
  | false => match v with
    | .slice none 0 0 => some .nil
    | .pointer none => some .any
    | .map none => some .any
    | .nilFunc => some .any
    | _ => none

def acsOf : List Value → Option (List AC)
  | [] => some []
  | v :: l => match acOf v with
    | some a => match acsOf l with
      | some r => some (a :: r)
      | none => none
    | none => none

def aggIf (g : Bool) (l : List AC) : Option AV :=
  match g with
  | true => some (.agg l)
  | false => match l with
    | [a] => some (.one a)
    | _ => none

section
variable {w : World} {S : Nat → Prop} {μ : Mu} {F : Fr} {mem : List (Nat × Res)}

theorem rep_constAV {v : Value} {x : AV} (h : constAV v = some x) : repAV w S μ x v := by
  unfold constAV at h
  split at h
  · rename_i hs
    injection h with h
    subst h
    exact ⟨rfl, hs⟩
  · split at h
    · injection h with h
      subst h
      rfl
    · injection h with h
      subst h
      trivial

theorem rep_opnd {s : St} {a : Act} (h : repEnv w S μ s.env a.tmps) {x : Operand} {v : AV} (hx : opnd s x = some v) : repAV w S μ v (a.eval x) := by
  cases x with
  | tmp t => exact h t v hx
  | const u => exact rep_constAV hx
  | global g => simp [opnd] at hx
  | func f =>
    simp only [opnd, Option.some.injEq] at hx
    subst hx
    exact ⟨[], rfl, rfl⟩

theorem rep_arg {s : St} {a : Act} (h : repEnv w S μ s.env a.tmps) {x : Operand} {c : List Prop} {v : AV} (hx : arg s x = some (c, v)) (hc : All c) : repAV w S μ v (a.eval x) := by
  unfold arg at hx
  split at hx
  · rename_i b v' ho
    simp only [Option.some.injEq, Prod.mk.injEq] at hx
    obtain ⟨rfl, rfl⟩ := hx
    exact (rep_opnd h ho).1 hc.1
  · rename_i v' _ ho
    simp only [Option.some.injEq, Prod.mk.injEq] at hx
    obtain ⟨rfl, rfl⟩ := hx
    exact rep_opnd h ho
  · cases hx

theorem rep_toCell (h : Wp F w S μ mem) {a : AC} {u : Value} {x : Cell} {d : List (Nat × Res)} (ha : repAC w S μ a u) (hx : toCell mem a = some (x, d)) :
    ∃ S', (∀ b, S b → S' b) ∧ Wp F w S' μ (d ++ mem) ∧ rep w S' x u := by
  cases a with
  | c y =>
    simp only [toCell, Option.some.injEq, Prod.mk.injEq] at hx
    obtain ⟨rfl, rfl⟩ := hx
    exact ⟨S, fun _ h => h, h, ha⟩
  | nil =>
    simp only [toCell, Option.some.injEq, Prod.mk.injEq] at hx
    obtain ⟨rfl, rfl⟩ := hx
    refine ⟨S, fun _ h => h, h, none, 0, ha, Nat.le_refl _, Nat.zero_le _, fun hn => absurd hn (by omega)⟩
  | own m =>
    simp only [toCell] at hx
    obtain ⟨hm, _⟩ := ha
    split at hx
    · rename_i e sz n get hl
      simp only [Option.some.injEq, Prod.mk.injEq] at hx
      obtain ⟨rfl, rfl⟩ := hx
      obtain ⟨S', h1, h2⟩ := h.freeze hl
      obtain ⟨v, hv, hr⟩ := h2.res m (.frz n sz get) (by rw [look_cons, if_pos rfl])
      rw [hm] at hv
      injection hv with hv
      subst hv
      exact ⟨S', h1, h2, hr⟩
    · rename_i n sz get hl
      simp only [Option.some.injEq, Prod.mk.injEq] at hx
      obtain ⟨rfl, rfl⟩ := hx
      obtain ⟨v, hv, hr⟩ := h.res m _ hl
      rw [hm] at hv
      injection hv with hv
      subst hv
      exact ⟨S, fun _ h => h, h, hr⟩
    · cases hx
  | ptr m off => simp [toCell] at hx
  | pst sz get => simp [toCell] at hx
  | pow m sz i j => simp [toCell] at hx
  | clo g caps => simp [toCell] at hx
  | map m => simp [toCell] at hx
  | pel g k sz i j => simp [toCell] at hx
  | it m => simp [toCell] at hx
  | any => simp [toCell] at hx
  | mel m g k =>
    simp only [toCell] at hx
    obtain ⟨l, hm, rfl, _⟩ := ha
    split at hx
    · rename_i e sz f hl
      simp only [Option.some.injEq, Prod.mk.injEq] at hx
      obtain ⟨rfl, rfl⟩ := hx
      obtain ⟨S', h1, h2, h3⟩ := h.freezeG hl
      exact ⟨S', h1, h2, h3 l k hm⟩
    · cases hx

def repCs (w : World) (S : Nat → Prop) : List Cell → List Value → Prop
  | [], us => us = []
  | x :: l, us => ∃ u r, us = u :: r ∧ rep w S x u ∧ repCs w S l r

theorem repCs_keep {w' : World} {S' : Nat → Prop} (hS : ∀ b, S b → S' b) (hw : ∀ b, S b → w'.heap[b]? = w.heap[b]?) : ∀ (l : List Cell) (us : List Value), repCs w S l us → repCs w' S' l us
  | [], _, h => h
  | _ :: l, _, ⟨u, r, e, h, hl⟩ => ⟨u, r, e, rep_keep hS hw _ _ h, repCs_keep hS hw l r hl⟩

theorem repCs_get : ∀ {l : List Cell} {us : List Value}, repCs w S l us → us.length = l.length ∧ ∀ (i : Nat) (x : Cell), l[i]? = some x → ∃ u, us[i]? = some u ∧ rep w S x u
  | [], _, h => by subst h; simp
  | _ :: l, _, ⟨u, r, e, h, hl⟩ => by
    subst e
    obtain ⟨h1, h2⟩ := repCs_get hl
    refine ⟨by simp [h1], fun i x hi => ?_⟩
    cases i with
    | zero =>
      simp at hi
      subst hi
      exact ⟨u, by simp, h⟩
    | succ i => simpa using h2 i x (by simpa using hi)

theorem repCs_acs : ∀ {l : List Cell} {us : List Value}, repCs w S l us → reps w S μ (l.map AC.c) us
  | [], _, h => h
  | _ :: _, _, ⟨u, r, e, h, hl⟩ => ⟨u, r, e, h, repCs_acs hl⟩

theorem rep_toCells : ∀ {l : List AC} {mem : List (Nat × Res)} {S : Nat → Prop} {us : List Value} {xs : List Cell} {d : List (Nat × Res)}, Wp F w S μ mem → reps w S μ l us → toCells mem l = some (xs, d) →
    ∃ S', (∀ b, S b → S' b) ∧ Wp F w S' μ (d ++ mem) ∧ repCs w S' xs us
  | [], mem, S, us, xs, d, h, hr, hx => by
    simp only [toCells, Option.some.injEq, Prod.mk.injEq] at hx
    obtain ⟨rfl, rfl⟩ := hx
    exact ⟨S, fun _ h => h, h, hr⟩
  | a :: l, mem, S, _, xs, d, h, ⟨u, r, e, ha, hl⟩, hx => by
    subst e
    simp only [toCells] at hx
    split at hx
    · rename_i x d1 h1
      split at hx
      · rename_i xs' d2 h2
        simp only [Option.some.injEq, Prod.mk.injEq] at hx
        obtain ⟨rfl, rfl⟩ := hx
        obtain ⟨S1, s1, w1, r1⟩ := rep_toCell h ha h1
        have k : Kp w w S S1 μ μ := ⟨s1, fun _ _ => rfl, fun _ _ h => h⟩
        obtain ⟨S2, s2, w2, r2⟩ := rep_toCells w1 (k.acs _ _ hl) h2
        rw [← List.append_assoc] at w2
        exact ⟨S2, fun b hb => s2 b (s1 b hb), w2, u, r, rfl, rep_keep s2 (fun _ _ => rfl) _ _ r1, r2⟩
      · cases hx
    · cases hx

theorem rep_cells {v : AV} {l : List AC} {u : Value} (h : repAV w S μ v u) (hl : v.cells = some l) : reps w S μ l u.cells.toList := by
  cases v with
  | one a =>
    simp only [AV.cells, Option.some.injEq] at hl
    subst hl
    exact ⟨u, [], by rw [(repAC_one h).2], h, rfl⟩
  | agg l' =>
    simp only [AV.cells, Option.some.injEq] at hl
    subst hl
    obtain ⟨us, rfl, hr⟩ := h
    simpa [Value.cells] using hr
  | tup l' => simp [AV.cells] at hl
  | un => simp [AV.cells] at hl
  | gd b v => simp [AV.cells] at hl

theorem rep_acOf {v : Value} {a : AC} (h : acOf v = some a) : repAC w S μ a v := by
  unfold acOf at h
  split at h
  · rename_i hs
    injection h with h
    subst h
    exact ⟨rfl, hs⟩
  · split at h
    · injection h with h
      subst h
      rfl
    · injection h with h
      subst h
      exact ⟨rfl, rfl⟩
    · injection h with h
      subst h
      exact ⟨rfl, rfl⟩
    · injection h with h
      subst h
      exact ⟨rfl, rfl⟩
    · cases h

theorem rep_acsOf : ∀ {l : List Value} {as : List AC}, acsOf l = some as → reps w S μ as l
  | [], as, h => by
    simp only [acsOf, Option.some.injEq] at h
    subst h
    rfl
  | v :: l, as, h => by
    simp only [acsOf] at h
    split at h
    · rename_i a ha
      split at h
      · rename_i r hr
        simp only [Option.some.injEq] at h
        subst h
        exact ⟨v, l, rfl, rep_acOf ha, rep_acsOf hr⟩
      · cases h
    · cases h

theorem rep_aggIf {g : Bool} {l : List AC} {us : List Value} {v : AV} (h : reps w S μ l us) (hv : aggIf g l = some v) : ∃ u, (if g then u = .agg us.toArray else us = [u]) ∧ repAV w S μ v u := by
  cases g with
  | true =>
    simp only [aggIf, Option.some.injEq] at hv
    subst hv
    exact ⟨_, rfl, us, rfl, h⟩
  | false =>
    simp only [aggIf] at hv
    split at hv
    · rename_i a
      simp only [Option.some.injEq] at hv
      subst hv
      obtain ⟨u, r, e, ha, hr⟩ := h
      simp only [reps] at hr
      subst hr
      exact ⟨u, e, ha⟩
    · cases hv
end
end Go.Eng

/- A program logic over abstract states, part D: operations that leave the world alone. -/
set_option linter.unusedSimpArgs false
namespace Go.Eng
open Go

abbrev Tab := List (Nat × TyI)
def TabOK (P : Program) (T : Tab) : Prop := ∀ t ti, look T t = some ti → TOK P t ti

def scalOf : AV → Option Value
  | .one (.c (.val v)) => some v
  | _ => none

def sc (v : Value) : AV := .one (.c (.val v))

/-- Arithmetic and comparisons of two scalars. -/
def scalBin (T : Tab) (op : BinOp) (t : Nat) : Value → Value → Option (List Prop × Value)
  | .int k a, .int k' b => match op with
    | .shl => some ([0 ≤ b], .int k (k.wrap (a * 2 ^ (min b.toNat k.bits))))
    | .shr => some ([0 ≤ b], .int k (a.fdiv (2 ^ (min b.toNat k.bits))))
    | .add => some ([k = k'], .int k (k.wrap (a + b)))
    | .sub => some ([k = k'], .int k (k.wrap (a - b)))
    | .mul => some ([k = k'], .int k (k.wrap (a * b)))
    | .quo => some ([k = k', b ≠ 0], .int k (k.wrap (a.tdiv b)))
    | .rem => some ([k = k', b ≠ 0], .int k (a.tmod b))
    | .and => some ([k = k'], .int k (k.wrap (BitVec.ofInt k.bits a &&& BitVec.ofInt k.bits b).toNat))
    | .or => some ([k = k'], .int k (k.wrap (BitVec.ofInt k.bits a ||| BitVec.ofInt k.bits b).toNat))
    | .xor => some ([k = k'], .int k (k.wrap (BitVec.ofInt k.bits a ^^^ BitVec.ofInt k.bits b).toNat))
    | .andNot => some ([k = k'], .int k (k.wrap (BitVec.ofInt k.bits a &&& ~~~ BitVec.ofInt k.bits b).toNat))
    | .eql => some ([k = k'], .bool (a == b))
    | .neq => some ([k = k'], .bool (a != b))
    | .lss => some ([k = k'], .bool (decide (a < b)))
    | .leq => some ([k = k'], .bool (decide (a ≤ b)))
    | .gtr => some ([k = k'], .bool (decide (a > b)))
    | .geq => some ([k = k'], .bool (decide (a ≥ b)))
  | .string a, .string b => match op with
    | .eql => some ([], .bool (a.toList == b.toList))
    | .neq => some ([], .bool (!(a.toList == b.toList)))
    | .lss => some ([], .bool (Op.bytesLess a.toList b.toList))
    | .leq => some ([], .bool (Op.bytesLess a.toList b.toList || a.toList == b.toList))
    | .gtr => some ([], .bool (!(Op.bytesLess a.toList b.toList || a.toList == b.toList)))
    | .geq => some ([], .bool (!Op.bytesLess a.toList b.toList))
    | .add => some ([((a.size + b.size : Nat) : Int) ≤ 9223372036854775807], .string (a ++ b))
    | _ => none
  | .bool a, .bool b => match look T t with
    | some ⟨.bool, _, _, _, _⟩ => match op with
      | .eql => some ([], .bool (a == b))
      | .neq => some ([], .bool (!(a == b)))
      | _ => none
    | _ => none
  | _, _ => none

theorem str_add_run {P : Program} {t : Nat} {ox oy : Operand} (a b : ByteArray) (w : World) (h : ((a.size + b.size : Nat) : Int) ≤ 9223372036854775807) :
    (do eqGuard .add t ox oy (.string a) (.string b); binOp .add t (.string a) (.string b) : Sem Value).run P w = .ok (.string (a ++ b)) w := by
  have hm : IntKind.i64.max = 9223372036854775807 := by decide
  have hn : ¬ ((a.size + b.size : Nat) : Int) > IntKind.i64.max := by rw [hm]; exact Int.not_lt.2 h
  show (do (pure () : Sem Unit); Op.stringOp .add a b : Sem Value).run P w = _
  unfold Op.stringOp
  simp only []
  rw [if_neg hn]
  simp

theorem scalBin_run {P : Program} {T : Tab} (hT : TabOK P T) {op : BinOp} {t : Nat} {x y : Value} {c : List Prop} {v : Value} (h : scalBin T op t x y = some (c, v)) (hc : All c) (w : World) (ox oy : Operand) :
    (do eqGuard op t ox oy x y; binOp op t x y : Sem Value).run P w = .ok v w ∧ scal v = true := by
  unfold scalBin at h
  split at h
  · cases op <;> simp only [Option.some.injEq, Prod.mk.injEq, reduceCtorEq] at h <;> obtain ⟨rfl, rfl⟩ := h <;> simp only [All, and_true] at hc <;> refine ⟨?_, rfl⟩ <;>
      first
        | (subst hc; simp [eqGuard, binOp, Op.intArith, Op.intBits, Op.intCmp]; done)
        | (obtain ⟨rfl, hb⟩ := hc; simp [eqGuard, binOp, Op.intDiv, hb]; done)
        | (have hn := Int.not_lt.2 hc; simp [eqGuard, binOp, Op.shift, hn])
  · cases op <;> simp only [Option.some.injEq, Prod.mk.injEq, reduceCtorEq] at h <;> obtain ⟨rfl, rfl⟩ := h <;> simp only [All, and_true] at hc <;> refine ⟨?_, rfl⟩ <;>
      first
        | (simp [eqGuard, binOp, Op.stringOp]; done)
        | exact str_add_run _ _ w hc
  · split at h
    · rename_i a b _ sz by_ z ky hl
      obtain ⟨hu, _⟩ := hT _ _ hl
      cases op <;> simp only [Option.some.injEq, Prod.mk.injEq, reduceCtorEq] at h <;> obtain ⟨rfl, rfl⟩ := h <;> refine ⟨?_, rfl⟩
      · show (do (pure () : Sem Unit); pure (.bool (← Op.equal t (.bool a) (.bool b))) : Sem Value).run P w = _
        simp [run_equal_bool w t a b hu]
      · show (do (pure () : Sem Unit); pure (.bool (!(← Op.equal t (.bool a) (.bool b)))) : Sem Value).run P w = _
        simp [run_equal_bool w t a b hu]
    · cases h
  · cases h

def scalUn (op : UnOp) : Value → Option Value
  | .bool b => match op with
    | .not => some (.bool (!b))
    | _ => none
  | .int k n => match op with
    | .neg => some (.int k (k.wrap (0 - n)))
    | .xor => some (.int k (k.wrap (BitVec.ofInt k.bits (if k.signed = true then -1 else k.max) ^^^ BitVec.ofInt k.bits n).toNat))
    | _ => none
  | _ => none

theorem scalUn_run {P : Program} {op : UnOp} {x v : Value} (h : scalUn op x = some v) (w : World) : (Op.unary op x).run P w = .ok v w ∧ scal v = true := by
  unfold scalUn at h
  split at h <;> cases op <;> simp only [Option.some.injEq, reduceCtorEq] at h <;> subst h <;> refine ⟨?_, rfl⟩ <;> simp [Op.unary, Op.intArith, Op.intBits]

def scalConv (T : Tab) (src dst : Nat) (x : Value) : Option Value :=
  match look T src with
  | some a => match look T dst with
    | some b => match x with
      | .int _ n => match b.desc with
        | .int k => some (.int k (k.wrap n))
        | _ => none
      | .string s => match a.desc with
        | .string => match b.desc with
          | .string => some (.string s)
          | _ => none
        | _ => none
      | _ => none
    | none => none
  | none => none

theorem scalConv_run {P : Program} {T : Tab} (hT : TabOK P T) {src dst : Nat} {x v : Value} (h : scalConv T src dst x = some v) (w : World) : (convert src dst x).run P w = .ok v w ∧ scal v = true := by
  unfold scalConv at h
  split at h
  · rename_i a ha
    split at h
    · rename_i b hb
      obtain ⟨h1, _⟩ := hT _ _ ha
      obtain ⟨h2, _⟩ := hT _ _ hb
      split at h
      · split at h
        · rename_i k hk
          simp only [Option.some.injEq] at h
          subst h
          rw [hk] at h2
          exact ⟨by simp [convert, run_underlying h1, run_underlying h2, Conv.intToInt], rfl⟩
        · cases h
      · split at h
        · rename_i hk1
          split at h
          · rename_i hk2
            simp only [Option.some.injEq] at h
            subst h
            rw [hk1] at h1
            rw [hk2] at h2
            exact ⟨by simp [convert, run_underlying h1, run_underlying h2], rfl⟩
          · cases h
        · cases h
      · cases h
    · cases h
  · cases h

/-- 'if c then a else b' of two scalars. -/
def iteVal (c : Bool) : Value → Value → Option (List Prop × Value)
  | .bool a, .bool b => some ([], .bool (if c = true then a else b))
  | .int k a, .int k' b => some ([k = k'], .int k (if c = true then a else b))
  | .string a, .string b => some ([], .string (if c = true then a else b))
  | _, _ => none

theorem iteVal_eq {c : Bool} {a b v : Value} {l : List Prop} (h : iteVal c a b = some (l, v)) (hl : All l) : (if c = true then a else b) = v ∧ scal v = true := by
  unfold iteVal at h
  split at h
  · simp only [Option.some.injEq, Prod.mk.injEq] at h
    obtain ⟨rfl, rfl⟩ := h
    cases c <;> simp [scal]
  · simp only [Option.some.injEq, Prod.mk.injEq] at h
    obtain ⟨rfl, rfl⟩ := h
    obtain ⟨rfl, _⟩ := hl
    cases c <;> simp [scal]
  · simp only [Option.some.injEq, Prod.mk.injEq] at h
    obtain ⟨rfl, rfl⟩ := h
    cases c <;> simp [scal]
  · cases h

def guardOf : AV → Bool × AV
  | .gd b v => (b, v)
  | v => (true, v)

def pick (s : St) (x a b : Operand) : Option Eff :=
  match arg s x with
  | some (c0, .one (.c (.val (.bool c)))) => match opnd s a with
    | some va => match opnd s b with
      | some vb => match guardOf va with
        | (ga, va) => match guardOf vb with
          | (gb, vb) => match scalOf va with
            | some xa => match scalOf vb with
              | some xb => match iteVal c xa xb with
                | some (l, v) => some ⟨c0 ++ (c = true → ga = true) :: (c = false → gb = true) :: l, sc v, []⟩
                | none => none
              | none => none
            | none => none
      | none => none
    | none => none
  | _ => none

section
variable {w : World} {S : Nat → Prop} {μ : Mu} {F : Fr}
theorem rep_scalOf {v : AV} {x u : Value} (h : scalOf v = some x) (hr : repAV w S μ v u) : u = x ∧ scal x = true := by
  unfold scalOf at h
  split at h
  · injection h with h
    subst h
    exact hr
  · cases h
theorem rep_guardOf {v v' : AV} {g : Bool} {u : Value} (h : guardOf v = (g, v')) (hr : repAV w S μ v u) (hg : g = true) : repAV w S μ v' u := by
  unfold guardOf at h
  split at h
  · simp only [Prod.mk.injEq] at h
    obtain ⟨rfl, rfl⟩ := h
    exact hr.1 hg
  · simp only [Prod.mk.injEq] at h
    obtain ⟨rfl, rfl⟩ := h
    exact hr

/-- What is owed of an operation that leaves the world alone. -/
def PureOK (P : Program) (o : Oper) (s : St) (E : Eff) : Prop :=
  ∀ (F : Fr) (w : World) (S : Nat → Prop) (μ : Mu) (a : Act), Wp F w S μ s.mem → repEnv w S μ s.env a.tmps → All E.cond →
    ∃ u S', (execOp a.eval o).run P w = .ok (.value u) w ∧ (∀ b, S b → S' b) ∧ Wp F w S' μ (E.mem ++ s.mem) ∧ repAV w S' μ E.val u

/-- .. where no memory settles either. -/
theorem PureOK.of {P : Program} {o : Oper} {s : St} {E : Eff} (hm : E.mem = [])
    (h : ∀ (w : World) (S : Nat → Prop) (μ : Mu) (F : Fr) (a : Act), Wp F w S μ s.mem → repEnv w S μ s.env a.tmps → All E.cond → ∃ u, (execOp a.eval o).run P w = .ok (.value u) w ∧ repAV w S μ E.val u) : PureOK P o s E := by
  intro F w S μ a hw he hc
  obtain ⟨u, h1, h2⟩ := h w S μ F a hw he hc
  exact ⟨u, S, h1, fun _ h => h, by rw [hm]; exact hw, h2⟩

theorem pick_ok {P : Program} {o : Oper} {s : St} {x a b : Operand} (ho : o.op = .pick x a b) {E : Eff} (h : pick s x a b = some E) : PureOK P o s E := by
  unfold pick at h
  split at h
  · rename_i c0 c hx
    split at h
    · rename_i va ha
      split at h
      · rename_i vb hb
        split at h
        rename_i ga va' hga
        split at h
        rename_i gb vb' hgb
        split at h
        · rename_i xa hxa
          split at h
          · rename_i xb hxb
            split at h
            · rename_i l v hi
              simp only [Option.some.injEq] at h
              subst h
              refine PureOK.of rfl fun w S μ F act hw he hc => ?_
              obtain ⟨h0, h1⟩ := All.app hc
              have hcx : act.eval x = .bool c := (rep_arg he hx h0).1
              have ra := rep_opnd he ha
              have rb := rep_opnd he hb
              obtain ⟨hv, hs⟩ := iteVal_eq hi h1.2.2
              refine ⟨v, ?_, rfl, hs⟩
              have : (if c = true then act.eval a else act.eval b) = v := by
                rw [← hv]
                cases c with
                | true => simp only [if_true]; exact (rep_scalOf hxa (rep_guardOf hga ra (h1.1 rfl))).1
                | false => simp only [Bool.false_eq_true, if_false]; exact (rep_scalOf hxb (rep_guardOf hgb rb (h1.2.1 rfl))).1
              simp [execOp, ho, hcx, asBool, this]
            · cases h
          · cases h
        · cases h
      · cases h
    · cases h
  · cases h
end
end Go.Eng

/- A program logic over abstract states, part E: operations that read memory. -/
namespace Go.Eng
open Go

/-- n cells from off on, of a run of cells. -/
def runCells (get : Nat → Cell) : Nat → Nat → List AC
  | _, 0 => []
  | off, n + 1 => .c (get off) :: runCells get (off + 1) n

theorem runCells_length (get : Nat → Cell) : ∀ (off n : Nat), (runCells get off n).length = n
  | _, 0 => rfl
  | off, n + 1 => by simp [runCells, runCells_length get (off + 1) n]

def loadEff (T : Tab) (s : St) (t : Nat) (x : Operand) : Option Eff :=
  match look T t with
  | none => none
  | some ti => match arg s x with
    | some (c, .one (.ptr m off)) => match look s.mem m with
      | some (.box _ cells) => match Nat.ble (off + ti.size) cells.length with
        | true => match aggIf (isAggD ti.desc) ((cells.drop off).take ti.size) with
          | some v => some ⟨c, v, []⟩
          | none => none
        | false => none
      | _ => none
    | some (c, .one (.pst sz get)) => match Nat.ble ti.size sz with
      | true => match aggIf (isAggD ti.desc) (runCells get 0 ti.size) with
        | some v => some ⟨c, v, []⟩
        | none => none
      | false => none
    | some (c, .one (.pow m sz i j)) => match look s.mem m with
      | some (.row _ sz' n get) => match Nat.beq sz sz', Nat.ble (j + ti.size) sz with
        | true, true => match aggIf (isAggD ti.desc) (runCells (get i) j ti.size) with
          | some v => some ⟨c ++ [i < n], v, []⟩
          | none => none
        | _, _ => none
      | _ => none
    | some (c, .one (.pel g k sz i j)) => match look s.mem g with
      | some (.grp _ sz' f) => match Nat.beq sz sz', Nat.ble (j + ti.size) sz with
        | true, true => match aggIf (isAggD ti.desc) (runCells ((f k).2 i) j ti.size) with
          | some v => some ⟨c ++ [i < (f k).1], v, []⟩
          | none => none
        | _, _ => none
      | _ => none
    | _ => none

section
variable {w : World} {S : Nat → Prop} {μ : Mu} {F : Fr}

theorem run_isAgg' {P : Program} {t : Nat} {d : TypeDesc} (h : P.underlying t = some d) (w : World) : (isAgg t).run P w = .ok (isAggD d) w := by
  simp only [isAgg, Sem.run_bind, run_underlying h, Result.andThen_ok]
  cases d <;> simp [isAggD]

theorem run_sizeOf' {P : Program} {t : Nat} {ti : TyI} (h : TOK P t ti) (w : World) : (sizeOf t).run P w = .ok ti.size w := by
  obtain ⟨_, i, z, hi, hs, _⟩ := h
  simp [sizeOf, typeInfo, hi, hs]

/-- A variable's load: us are the cells from ⟨b, o⟩ on. -/
theorem run_loadVar' {P : Program} {t : Nat} {ti : TyI} (h : TOK P t ti) (w : World) (b o : Nat) (us : List Value) (hl : us.length = ti.size)
    (hu : ∀ (j : Nat) (u : Value), us[j]? = some u → w.cell? ⟨b, o + j, none⟩ = some u) {g : List AC} {v : AV} (hr : reps w S μ g us) (hv : aggIf (isAggD ti.desc) g = some v) :
    ∃ u, (loadVar t ⟨b, o, none⟩).run P w = .ok u w ∧ repAV w S μ v u := by
  obtain ⟨u, h1, h2⟩ := rep_aggIf hr hv
  refine ⟨u, ?_, h2⟩
  simp only [loadVar, Sem.run_bind, run_isAgg' h.1, Result.andThen_ok]
  cases hg : isAggD ti.desc with
  | true =>
    rw [hg] at h1
    simp only [if_true] at h1
    simp only [if_true, Sem.run_bind, run_sizeOf' h, Result.andThen_ok]
    rw [← hl, run_loadCells_list w ⟨b, o, none⟩ us (fun j v hj => by rw [Addr.add_lit]; exact hu j v hj)]
    simp [h1]
  | false =>
    rw [hg] at h1
    simp only [Bool.false_eq_true, if_false] at h1
    subst h1
    have := hu 0 u rfl
    simp only [Nat.add_zero] at this
    simp [load, Sem.run, this]

theorem box_cells {F : Fr} {mem : List (Nat × Res)} (h : Wp F w S μ mem) {m ty : Nat} {cells : List AC} (hl : look mem m = some (.box ty cells)) :
    ∃ b us, μ m = some (.pointer (some ⟨b, 0, none⟩)) ∧ w.heap[b]? = some (.cells (List.toArray us) ty (0, 0)) ∧ reps w S μ cells us ∧ us.length = cells.length ∧
      ∀ j u, us[j]? = some u → w.cell? ⟨b, j, none⟩ = some u := by
  obtain ⟨b, us, h1, h2, h3⟩ := h.res m _ hl
  refine ⟨b, us, h1, h2, h3, (reps_one h3).1, fun j u hj => ?_⟩
  rw [cell_of_row w b j _ ty _ h2]
  simpa using hj

theorem runCells_rep (get : Nat → Cell) (cell : Nat → Option Value) : ∀ (n off : Nat), (∀ j, off ≤ j → j < off + n → ∃ x, cell j = some x ∧ rep w S (get j) x) →
    ∃ us : List Value, us.length = n ∧ reps w S μ (runCells get off n) us ∧ ∀ j u, us[j]? = some u → cell (off + j) = some u
  | 0, off, _ => ⟨[], rfl, rfl, by simp⟩
  | n + 1, off, h => by
    obtain ⟨x, h1, h2⟩ := h off (Nat.le_refl _) (by omega)
    obtain ⟨us, h3, h4, h5⟩ := runCells_rep get cell n (off + 1) (fun j hj hj' => h j (by omega) (by omega))
    refine ⟨x :: us, by simp [h3], ⟨x, us, rfl, h2, h4⟩, fun j u hj => ?_⟩
    cases j with
    | zero =>
      simp at hj
      subst hj
      exact h1
    | succ j =>
      have := h5 j u (by simpa using hj)
      rw [show off + (j + 1) = off + 1 + j from by omega]
      exact this

theorem row_cells {F : Fr} {mem : List (Nat × Res)} (h : Wp F w S μ mem) {m e sz n : Nat} {get : Nat → Nat → Cell} (hl : look mem m = some (.row e sz n get)) :
    ∃ v xs, μ m = some v ∧ w.ownsRow 0 e sz v n xs ∧ ∀ b c, v = .slice (some ⟨b, 0, none⟩) n c → ∀ i, i < n → ∀ j, j < sz → ∃ x, w.cell? ⟨b, i * sz + j, none⟩ = some x ∧ rep w S (get i j) x := by
  obtain ⟨v, xs, h1, h2, h3⟩ := h.res m _ hl
  refine ⟨v, xs, h1, h2, fun b c hv i hi j hj => ?_⟩
  subst hv
  obtain ⟨x, hx, hr⟩ := h3 i hi j hj
  refine ⟨x, ?_, hr⟩
  have := h2.cells (g := b) rfl (i * sz + j) x hx
  rw [Addr.add_lit] at this
  simpa using this

theorem load_ok {P : Program} {T : Tab} (hT : TabOK P T) {o : Oper} {s : St} {t : Nat} {x : Operand} (ho : o.op = .load t x) {E : Eff} (h : loadEff T s t x = some E) : PureOK P o s E := by
  unfold loadEff at h
  split at h
  · cases h
  rename_i ti hti
  have ht := hT _ _ hti
  have fin : ∀ {act : Act} {ad : Addr} {w : World} {S : Nat → Prop} {μ : Mu} {v : AV}, act.eval x = .pointer (some ad) → (∃ u, (loadVar t ad).run P w = .ok u w ∧ repAV w S μ v u) →
      ∃ u, (execOp act.eval o).run P w = .ok (.value u) w ∧ repAV w S μ v u := by
    intro act ad w S μ v hx ⟨u, h1, h2⟩
    exact ⟨u, by simp [execOp, ho, hx, Instr.loadAt, Instr.sureAddr, h1], h2⟩
  split at h
  · rename_i c m off hx
    split at h
    · rename_i ty cells hm
      split at h
      · rename_i hsz
        split at h
        · rename_i v hv
          simp only [Option.some.injEq] at h
          subst h
          refine PureOK.of rfl fun w S μ F act hw he hc => ?_
          obtain ⟨b, hb, hxe⟩ := rep_arg he hx hc
          obtain ⟨b', us, h1, h2, h3, h4, h5⟩ := box_cells hw hm
          rw [hb] at h1
          injection h1 with h1
          injection h1 with h1
          injection h1 with h1
          injection h1 with h1
          subst h1
          have hle := Nat.le_of_ble_eq_true hsz
          refine fin hxe (run_loadVar' ht w b off ((us.drop off).take ti.size) ?_ (fun j u hj => ?_) (reps_take _ (reps_drop _ h3)) hv)
          · rw [List.length_take, List.length_drop]; omega
          · rw [List.getElem?_take] at hj
            split at hj
            · rw [List.getElem?_drop] at hj
              exact h5 _ _ hj
            · cases hj
        · cases h
      · cases h
    · cases h
  · rename_i c sz get hx
    split at h
    · rename_i hsz
      split at h
      · rename_i v hv
        simp only [Option.some.injEq] at h
        subst h
        refine PureOK.of rfl fun w S μ F act hw he hc => ?_
        obtain ⟨b, o', hxe, hS, hcell⟩ := rep_arg he hx hc
        have hle := Nat.le_of_ble_eq_true hsz
        obtain ⟨us, h1, h2, h3⟩ := runCells_rep (w := w) (S := S) (μ := μ) get (fun j => w.cell? ⟨b, o' + j, none⟩) ti.size 0 (fun j _ hj => hcell j (by omega))
        exact fin hxe (run_loadVar' ht w b o' us h1 (fun j u hj => by simpa using h3 j u hj) h2 hv)
      · cases h
    · cases h
  · rename_i c m sz i j hx
    split at h
    · rename_i e sz' n get hm
      split at h
      · rename_i hs1 hs2
        split at h
        · rename_i v hv
          simp only [Option.some.injEq] at h
          subst h
          refine PureOK.of rfl fun w S μ F act hw he hc => ?_
          obtain ⟨hc1, hc2⟩ := All.app hc
          have hin : i < n := hc2.1
          have hle := Nat.le_of_ble_eq_true hs2
          have hse := Nat.eq_of_beq_eq_true hs1
          subst hse
          obtain ⟨b, n', c', hb, hxe⟩ := rep_arg he hx hc1
          obtain ⟨v', xs, h1, h2, h3⟩ := row_cells hw hm
          rw [hb] at h1
          injection h1 with h1
          subst h1
          have hn : n' = n := by
            rcases h2.2 with ⟨e1, _⟩ | ⟨g, cap, cur, e1, _⟩
            · cases e1
            · injection e1
          subst hn
          obtain ⟨us, h4, h5, h6⟩ := runCells_rep (w := w) (S := S) (μ := μ) (get i) (fun q => w.cell? ⟨b, i * sz + q, none⟩) ti.size j (fun q _ hq => h3 b c' rfl i hin q (by omega))
          exact fin hxe (run_loadVar' ht w b (i * sz + j) us h4 (fun q u hq => by rw [Nat.add_assoc]; exact h6 q u hq) h5 hv)
        · cases h
      · cases h
    · cases h
  · rename_i c g key sz i j hx
    split at h
    · rename_i e sz' f hm
      split at h
      · rename_i hs1 hs2
        split at h
        · rename_i v hv
          simp only [Option.some.injEq] at h
          subst h
          refine PureOK.of rfl fun w S μ F act hw he hc => ?_
          obtain ⟨hc1, hc2⟩ := All.app hc
          have hin : i < (f key).1 := hc2.1
          have hle := Nat.le_of_ble_eq_true hs2
          have hse := Nat.eq_of_beq_eq_true hs1
          subst hse
          obtain ⟨l, b, n', c', hg, hval, hxe⟩ := rep_arg he hx hc1
          obtain ⟨l', _, hg', hrows, _⟩ := hw.res g _ hm
          rw [hg] at hg'
          injection hg' with hg'
          obtain rfl := encG_inj hg'
          obtain ⟨xs, hown, hcells⟩ := hrows key
          rw [hval] at hown
          have h3 : ∀ q, q < sz → ∃ x, w.cell? ⟨b, i * sz + q, none⟩ = some x ∧ rep w S ((f key).2 i q) x := by
            intro q hq
            obtain ⟨x, hx1, hx2⟩ := hcells i hin q hq
            have hcl := hown.cells (g := b) rfl (i * sz + q) x hx1
            have hadd : (⟨b, 0, none⟩ : Addr).add (i * sz + q) = ⟨b, i * sz + q, none⟩ := by unfold Addr.add; split <;> simp_all
            rw [hadd] at hcl
            exact ⟨x, hcl, hx2⟩
          obtain ⟨us, h4, h5, h6⟩ := runCells_rep (w := w) (S := S) (μ := μ) ((f key).2 i) (fun q => w.cell? ⟨b, i * sz + q, none⟩) ti.size j (fun q _ hq => h3 q (by omega))
          exact fin hxe (run_loadVar' ht w b (i * sz + j) us h4 (fun q u hq => by rw [Nat.add_assoc]; exact h6 q u hq) h5 hv)
        · cases h
      · cases h
    · cases h
  · cases h

/-- A slice that is read: its length, its elements' cells, its elements; and, where it settles by this, what is told anew. -/
def sliceOf (mem : List (Nat × Res)) : AV → Option (Nat × Nat × (Nat → Nat → Cell) × List (Nat × Res))
  | .one (.c (.sl n sz get)) => some (n, sz, get, [])
  | .one .nil => some (0, 1, fun _ _ => .val (.bool false), [])
  | .one (.own m) => match look mem m with
    | some (.row _ sz n get) => some (n, sz, get, [(m, .frz n sz get)])
    | some (.frz n sz get) => some (n, sz, get, [])
    | _ => none
  | _ => none

theorem rep_sliceOf {mem : List (Nat × Res)} (h : Wp F w S μ mem) {v : AV} {u : Value} {n sz : Nat} {get : Nat → Nat → Cell} {d : List (Nat × Res)} (hr : repAV w S μ v u) (hs : sliceOf mem v = some (n, sz, get, d)) :
    ∃ S', (∀ b, S b → S' b) ∧ Wp F w S' μ (d ++ mem) ∧ rep w S' (.sl n sz get) u := by
  have conv : ∀ {a : AC}, v = .one a → toCell mem a = some (.sl n sz get, d) → ∃ S', (∀ b, S b → S' b) ∧ Wp F w S' μ (d ++ mem) ∧ rep w S' (.sl n sz get) u := by
    intro a e ha
    subst e
    exact rep_toCell h hr ha
  unfold sliceOf at hs
  split at hs
  · simp only [Option.some.injEq, Prod.mk.injEq] at hs
    obtain ⟨rfl, rfl, rfl, rfl⟩ := hs
    exact conv rfl rfl
  · simp only [Option.some.injEq, Prod.mk.injEq] at hs
    obtain ⟨rfl, rfl, rfl, rfl⟩ := hs
    exact conv rfl rfl
  · rename_i m
    split at hs
    · rename_i e sz' n' get' hl
      simp only [Option.some.injEq, Prod.mk.injEq] at hs
      obtain ⟨rfl, rfl, rfl, rfl⟩ := hs
      exact conv rfl (by simp [toCell, hl])
    · rename_i sz' n' get' hl
      simp only [Option.some.injEq, Prod.mk.injEq] at hs
      obtain ⟨rfl, rfl, rfl, rfl⟩ := hs
      exact conv rfl (by simp [toCell, hl])
    · cases hs
  · cases hs

/-- Its length alone. -/
def lenOf (mem : List (Nat × Res)) : AV → Option Nat
  | .one (.c (.sl n _ _)) => some n
  | .one .nil => some 0
  | .one (.own m) => match look mem m with
    | some (.row _ _ n _) => some n
    | some (.frz n _ _) => some n
    | _ => none
  | .one (.mel _ g k) => match look mem g with
    | some (.grp _ _ f) => some (f k).1
    | _ => none
  | _ => none

theorem rep_lenOf {mem : List (Nat × Res)} (h : Wp F w S μ mem) {v : AV} {u : Value} {n : Nat} (hr : repAV w S μ v u) (hs : lenOf mem v = some n) : ∃ A c, u = .slice A n c := by
  unfold lenOf at hs
  split at hs
  · injection hs with hs
    subst hs
    obtain ⟨A, c, rfl, _⟩ := hr
    exact ⟨_, _, rfl⟩
  · injection hs with hs
    subst hs
    exact ⟨_, _, hr⟩
  · rename_i m
    obtain ⟨hm, _⟩ := hr
    split at hs
    · rename_i hl
      injection hs with hs
      subst hs
      obtain ⟨v, xs, hv, hown, _⟩ := h.res m _ hl
      rw [hm] at hv
      injection hv with hv
      subst hv
      rcases hown.2 with ⟨rfl, rfl⟩ | ⟨g, cap, cur, rfl, _⟩
      · exact ⟨_, _, rfl⟩
      · exact ⟨_, _, rfl⟩
    · rename_i hl
      injection hs with hs
      subst hs
      obtain ⟨v, hv, A, c, rfl, _⟩ := h.res m _ hl
      rw [hm] at hv
      injection hv with hv
      exact ⟨A, c, hv⟩
    · cases hs
  · rename_i key
    obtain ⟨l, hg, rfl, _⟩ := hr
    split at hs
    · rename_i hl
      injection hs with hs
      subst hs
      obtain ⟨l', _, hg', hrows, _⟩ := h.res _ _ hl
      rw [hg] at hg'
      injection hg' with hg'
      obtain rfl := encG_inj hg'
      obtain ⟨xs, hown, _⟩ := hrows key
      rcases hown.2 with ⟨hv, hn⟩ | ⟨g', cap, cur, hv, _⟩
      · exact ⟨none, 0, by rw [hv, hn]⟩
      · exact ⟨_, _, hv⟩
    · cases hs
  · cases hs

/-- How many entries a map has. -/
def mapLen (mem : List (Nat × Res)) : AV → Option Nat
  | .one (.map m) => match look mem m with
    | some (.mapI _ _ a) => some a.es.length
    | some (.mapR _ _ _ a) => some a.es.length
    | _ => none
  | _ => none

theorem entsR_len {l : List (List Int × Value)} : ∀ {es : List MEnt} {xs : List MapEntry}, entsR l es xs → xs.length = es.length
  | [], xs, h => by
    have : xs = [] := h
    subst this
    rfl
  | e :: es, xs, ⟨x, r, hx, _, _, _, hr⟩ => by
    subst hx
    simp [entsR_len hr]

theorem rep_mapLen {mem : List (Nat × Res)} (h : Wp F w S μ mem) {v : AV} {u : Value} {n : Nat} (hr : repAV w S μ v u) (hs : mapLen mem v = some n) : ∃ r es c, u = .map (some r) ∧ w.heap[r]? = some (.map es c) ∧ es.size = n := by
  unfold mapLen at hs
  split at hs
  · rename_i m
    obtain ⟨hm, r, rfl⟩ := hr
    split at hs
    · rename_i a hl
      injection hs with hs
      subst hs
      obtain ⟨r', h1, h2, _⟩ := h.res m _ hl
      rw [hm] at h1
      injection h1 with h1
      injection h1 with h1
      injection h1 with h1
      subst h1
      exact ⟨r, _, _, rfl, h2, by simp⟩
    · rename_i a hl
      injection hs with hs
      subst hs
      obtain ⟨r', l, xs, h1, _, h2, ⟨_, _, h3, _⟩, _⟩ := h.res m _ hl
      rw [hm] at h1
      injection h1 with h1
      injection h1 with h1
      injection h1 with h1
      subst h1
      exact ⟨r, _, _, rfl, h2, by simp [entsR_len h3]⟩
    · cases hs
  · cases hs

def lenEff (T : Tab) (s : St) (t : Nat) (x : Operand) : Option Eff :=
  match look T t with
  | none => none
  | some ti => match arg s x with
    | none => none
    | some (c, v) => match ti.desc with
      | .slice _ => match lenOf s.mem v with
        | some n => some ⟨c, sc (.int .i64 n), []⟩
        | none => none
      | .string => match scalOf v with
        | some (.string b) => some ⟨c, sc (.int .i64 b.size), []⟩
        | _ => none
      | .map _ _ => match mapLen s.mem v with
        | some n => some ⟨c, sc (.int .i64 n), []⟩
        | none => none
      | _ => none

theorem len_ok {P : Program} {T : Tab} (hT : TabOK P T) {o : Oper} {s : St} {t : Nat} {x : Operand} (ho : o.op = .call { callee := .builtin .len, args := #[x], argTypes := #[t] }) {E : Eff} (h : lenEff T s t x = some E) : PureOK P o s E := by
  unfold lenEff at h
  split at h
  · cases h
  rename_i ti hti
  have ht := hT _ _ hti
  split at h
  · cases h
  rename_i c v hx
  split at h
  · rename_i e hd
    split at h
    · rename_i n hn
      simp only [Option.some.injEq] at h
      subst h
      refine PureOK.of rfl fun w S μ F act hw he hc => ?_
      obtain ⟨A, cc, hu⟩ := rep_lenOf hw (rep_arg he hx hc) hn
      have h1 := ht.1
      rw [hd] at h1
      exact ⟨_, by simp [execOp, ho, resolve, invoke, builtin, Builtin.len_, hu, run_underlying h1, goInt], rfl, rfl⟩
    · cases h
  · rename_i hd
    split at h
    · rename_i b hb
      simp only [Option.some.injEq] at h
      subst h
      refine PureOK.of rfl fun w S μ F act hw he hc => ?_
      have hu := (rep_scalOf hb (rep_arg he hx hc)).1
      have h1 := ht.1
      rw [hd] at h1
      exact ⟨_, by simp [execOp, ho, resolve, invoke, builtin, Builtin.len_, hu, run_underlying h1, goInt], rfl, rfl⟩
    · cases h
  · rename_i k e hd
    split at h
    · rename_i n hn
      simp only [Option.some.injEq] at h
      subst h
      refine PureOK.of rfl fun w S μ F act hw he hc => ?_
      obtain ⟨r, es, cl, hu, hr, hsz⟩ := rep_mapLen hw (rep_arg he hx hc) hn
      have h1 := ht.1
      rw [hd] at h1
      exact ⟨_, by simp [execOp, ho, resolve, invoke, builtin, Builtin.len_, hu, run_underlying h1, MapKept.run_getObj_map hr, goInt, hsz], rfl, rfl⟩
    · cases h
  · cases h
end
end Go.Eng

/- A program logic over abstract states, part F: addresses, parts, slices of slices, function values. -/
namespace Go.Eng
open Go

def fieldOf (T : Tab) (t f : Nat) : Option (Nat × Nat × Bool) :=
  match look T t with
  | none => none
  | some ti => match ti.desc with
    | .struct fs => match fs.toList[f]? with
      | none => none
      | some fd => match look T fd.type with
        | none => none
        | some tf => match Nat.ble 1 tf.size with
          | true => some (fd.offset, tf.size, isAggD tf.desc)
          | false => none
    | _ => none

theorem fieldOf_ok {P : Program} {T : Tab} (hT : TabOK P T) {t f off sz : Nat} {g : Bool} (h : fieldOf T t f = some (off, sz, g)) :
    ∃ fs fd tf, P.underlying t = some (.struct fs) ∧ fs[f]? = some fd ∧ fd.offset = off ∧ TOK P fd.type tf ∧ tf.size = sz ∧ isAggD tf.desc = g ∧ 1 ≤ sz := by
  unfold fieldOf at h
  split at h
  · cases h
  rename_i ti hti
  split at h
  · rename_i fs hd
    split at h
    · cases h
    rename_i fd hfd
    split at h
    · cases h
    rename_i tf htf
    split at h
    · rename_i hb
      simp only [Option.some.injEq, Prod.mk.injEq] at h
      obtain ⟨rfl, rfl, rfl⟩ := h
      have h1 := (hT _ _ hti).1
      rw [hd] at h1
      exact ⟨fs, fd, tf, h1, by simpa using hfd, rfl, hT _ _ htf, rfl, rfl, Nat.le_of_ble_eq_true hb⟩
    · cases h
  · cases h

def fieldAddrEff (T : Tab) (s : St) (t : Nat) (x : Operand) (f : Nat) : Option Eff :=
  match fieldOf T t f with
  | none => none
  | some (o, fsz, _) => match arg s x with
    | some (c, .one (.ptr m off)) => some ⟨c, .one (.ptr m (off + o)), []⟩
    | some (c, .one (.pst sz get)) => match Nat.ble (o + fsz) sz with
      | true => some ⟨c, .one (.pst (sz - o) (fun j => get (o + j))), []⟩
      | false => none
    | some (c, .one (.pow m sz i j)) => some ⟨c, .one (.pow m sz i (j + o)), []⟩
    | _ => none

theorem fieldAddr_ok {P : Program} {T : Tab} (hT : TabOK P T) {o : Oper} {s : St} {t f : Nat} {x : Operand} (ho : o.op = .fieldAddr t x f) {E : Eff} (h : fieldAddrEff T s t x f = some E) : PureOK P o s E := by
  unfold fieldAddrEff at h
  split at h
  · cases h
  rename_i off fsz g hf
  obtain ⟨fs, fd, tf, h1, h2, h3, h4, h5, _, h6⟩ := fieldOf_ok hT hf
  have fin : ∀ {act : Act} {b q : Nat} {w : World}, act.eval x = .pointer (some ⟨b, q, none⟩) → (execOp act.eval o).run P w = .ok (.value (.pointer (some ⟨b, q + off, none⟩))) w := by
    intro act b q w hx
    have hne : ¬ tf.size = 0 := by omega
    simp [execOp, ho, hx, Instr.fieldAt, Instr.sureAddr, run_underlying h1, h2, fieldPlace, run_sizeOf' h4, hne, h3, Addr.add_lit]
  split at h
  · rename_i c m q hx
    simp only [Option.some.injEq] at h
    subst h
    refine PureOK.of rfl fun w S μ F act hw he hc => ?_
    obtain ⟨b, hb, hxe⟩ := rep_arg he hx hc
    exact ⟨_, fin hxe, b, hb, rfl⟩
  · rename_i c sz get hx
    split at h
    · rename_i hle
      simp only [Option.some.injEq] at h
      subst h
      refine PureOK.of rfl fun w S μ F act hw he hc => ?_
      obtain ⟨b, q, hxe, hS, hcell⟩ := rep_arg he hx hc
      have := Nat.le_of_ble_eq_true hle
      refine ⟨_, fin hxe, b, _, rfl, hS, fun j hj => ?_⟩
      obtain ⟨u, hu, hr⟩ := hcell (off + j) (by omega)
      exact ⟨u, by rw [Nat.add_assoc]; exact hu, hr⟩
    · cases h
  · rename_i c m sz i j hx
    simp only [Option.some.injEq] at h
    subst h
    refine PureOK.of rfl fun w S μ F act hw he hc => ?_
    obtain ⟨b, n, cc, hb, hxe⟩ := rep_arg he hx hc
    exact ⟨_, fin hxe, b, n, cc, hb, by rw [Nat.add_assoc]⟩
  · cases h

def fieldEff (T : Tab) (s : St) (t : Nat) (x : Operand) (f : Nat) : Option Eff :=
  match fieldOf T t f with
  | none => none
  | some (o, fsz, g) => match arg s x with
    | some (c, .agg l) => match Nat.ble (o + fsz) l.length with
      | true => match aggIf g ((l.drop o).take fsz) with
        | some v => some ⟨c, v, []⟩
        | none => none
      | false => none
    | _ => none

theorem run_part {P : Program} {t : Nat} {ti : TyI} (h : TOK P t ti) (w : World) {S : Nat → Prop} {μ : Mu} (us : List Value) (o : Nat) {g : List AC} {v : AV}
    (hr : reps w S μ g ((us.drop o).take ti.size)) (hv : aggIf (isAggD ti.desc) g = some v) : ∃ u, (part t us.toArray o).run P w = .ok u w ∧ repAV w S μ v u := by
  obtain ⟨u, h1, h2⟩ := rep_aggIf hr hv
  refine ⟨u, ?_, h2⟩
  simp only [part, Sem.run_bind, run_isAgg' h.1, Result.andThen_ok]
  cases hg : isAggD ti.desc with
  | true =>
    rw [hg] at h1
    simp only [if_true] at h1
    simp only [if_true, Sem.run_bind, run_sizeOf' h, Result.andThen_ok, Sem.run_pure]
    rw [h1]
    congr 2
    apply Array.ext'
    simp [List.extract_eq_take_drop, Nat.add_sub_cancel_left]
  | false =>
    rw [hg] at h1
    simp only [Bool.false_eq_true, if_false] at h1
    have h0 : ((us.drop o).take ti.size)[0]? = some u := by rw [h1]; rfl
    rw [List.getElem?_take] at h0
    split at h0
    · rw [List.getElem?_drop] at h0
      simp only [Nat.add_zero] at h0
      simp [h0]
    · cases h0

theorem field_ok {P : Program} {T : Tab} (hT : TabOK P T) {o : Oper} {s : St} {t f : Nat} {x : Operand} (ho : o.op = .field t x f) {E : Eff} (h : fieldEff T s t x f = some E) : PureOK P o s E := by
  unfold fieldEff at h
  split at h
  · cases h
  rename_i off fsz g hf
  obtain ⟨fs, fd, tf, h1, h2, h3, h4, h5, h7, h6⟩ := fieldOf_ok hT hf
  split at h
  · rename_i c l hx
    split at h
    · rename_i hle
      split at h
      · rename_i v hv
        simp only [Option.some.injEq] at h
        subst h
        refine PureOK.of rfl fun w S μ F act hw he hc => ?_
        obtain ⟨us, hxe, hr⟩ := rep_arg he hx hc
        obtain ⟨u, hu, hru⟩ := run_part h4 w (S := S) (μ := μ) us off (g := (l.drop off).take fsz) (v := v) (by rw [h5]; exact reps_take _ (reps_drop _ hr)) (by rw [h7]; exact hv)
        exact ⟨u, by simp [execOp, ho, hxe, Instr.field, run_underlying h1, h2, asAgg, h3, hu], hru⟩
      · cases h
    · cases h
  · cases h

def indexAddrEff (T : Tab) (s : St) (t : Nat) (x ix : Operand) : Option Eff :=
  match look T t with
  | none => none
  | some ti => match ti.desc with
    | .slice e => match look T e with
      | none => none
      | some te => match arg s x with
        | some (c, .one a) => match arg s ix with
          | some (c', .one (.c (.val (.int _ i)))) => match a with
            | .c (.sl n sz get) => match Nat.beq te.size sz with
              | true => some ⟨c ++ c' ++ [0 ≤ i, i < (n : Int)], .one (.pst sz (get i.toNat)), []⟩
              | false => none
            | .own m => match look s.mem m with
              | some (.row _ sz n _) => match Nat.beq te.size sz with
                | true => some ⟨c ++ c' ++ [0 ≤ i, i < (n : Int)], .one (.pow m sz i.toNat 0), []⟩
                | false => none
              | some (.frz n sz get) => match Nat.beq te.size sz with
                | true => some ⟨c ++ c' ++ [0 ≤ i, i < (n : Int)], .one (.pst sz (get i.toNat)), []⟩
                | false => none
              | _ => none
            | .mel _ g key => match look s.mem g with
              | some (.grp _ sz f) => match Nat.beq te.size sz with
                | true => some ⟨c ++ c' ++ [0 ≤ i, i < ((f key).1 : Int)], .one (.pel g key sz i.toNat 0), []⟩
                | false => none
              | _ => none
            | _ => none
          | _ => none
        | _ => none
    | _ => none

theorem indexAddr_run {P : Program} {t e : Nat} {te : TyI} (ht : P.underlying t = some (.slice e)) (hte : TOK P e te) {o : Oper} {x ix : Operand} (ho : o.op = .indexAddr t x ix) {act : Act} {k : IntKind} {i : Int} {b q n c : Nat} (w : World)
    (hx : act.eval x = .slice (some ⟨b, q, none⟩) n c) (hi : act.eval ix = .int k i) (h0 : 0 ≤ i) (h1 : i < (n : Int)) :
    (execOp act.eval o).run P w = .ok (.value (.pointer (some ⟨b, q + i.toNat * te.size, none⟩))) w := by
  simp [execOp, ho, hx, hi, Instr.indexAt, asIntOf, run_underlying ht, run_sizeOf' hte, h0, h1, Addr.add_lit]

theorem indexAddr_ok {P : Program} {T : Tab} (hT : TabOK P T) {o : Oper} {s : St} {t : Nat} {x ix : Operand} (ho : o.op = .indexAddr t x ix) {E : Eff} (h : indexAddrEff T s t x ix = some E) : PureOK P o s E := by
  unfold indexAddrEff at h
  split at h
  · cases h
  rename_i ti hti
  split at h
  · rename_i e hd
    have ht := (hT _ _ hti).1
    rw [hd] at ht
    split at h
    · cases h
    rename_i te hte0
    have hte := hT _ _ hte0
    split at h
    · rename_i c a hx
      split at h
      · rename_i c' k i hix
        have stable : ∀ {w : World} {S : Nat → Prop} {act : Act} {n sz : Nat} {get : Nat → Nat → Cell}, te.size = sz → rep w S (.sl n sz get) (act.eval x) → act.eval ix = .int k i → 0 ≤ i → i < (n : Int) →
            ∃ u, (execOp act.eval o).run P w = .ok (.value u) w ∧ ∀ μ, repAC w S μ (.pst sz (get i.toNat)) u := by
          intro w S act n sz get hs hr hi h0 h1
          obtain ⟨A, cc, hu, _, _, h3⟩ := hr
          obtain ⟨b, q, rfl, hS, hcell⟩ := h3 (by omega)
          refine ⟨_, indexAddr_run ht hte ho w hu hi h0 h1, fun μ => ⟨b, _, rfl, hS, fun j hj => ?_⟩⟩
          rw [hs]
          exact hcell i.toNat (by omega) j hj
        split at h
        · rename_i n sz get
          split at h
          · rename_i hsz
            simp only [Option.some.injEq] at h
            subst h
            refine PureOK.of rfl fun w S μ F act hw he hc => ?_
            obtain ⟨hc0, hc2⟩ := All.app hc
            obtain ⟨hc1, hc1'⟩ := All.app hc0
            obtain ⟨u, h1, h2⟩ := stable (Nat.eq_of_beq_eq_true hsz) (rep_arg he hx hc1) (rep_arg he hix hc1').1 hc2.1 hc2.2.1
            exact ⟨u, h1, h2 μ⟩
          · cases h
        · rename_i m
          split at h
          · rename_i e' sz n get hm
            split at h
            · rename_i hsz
              simp only [Option.some.injEq] at h
              subst h
              refine PureOK.of rfl fun w S μ F act hw he hc => ?_
              obtain ⟨hc0, hc2⟩ := All.app hc
              obtain ⟨hc1, hc1'⟩ := All.app hc0
              obtain ⟨hmu, A, n', c', hu⟩ := rep_arg he hx hc1
              obtain ⟨v', xs, h1, h2, h3⟩ := row_cells hw hm
              rw [hmu] at h1
              injection h1 with h1
              have hi0 : 0 ≤ i := hc2.1
              have hin : i < (n : Int) := hc2.2.1
              rcases h2.2 with ⟨_, e2⟩ | ⟨g, cap, cur, e1, _⟩
              · omega
              · rw [h1] at hmu
                rw [e1] at h1 hmu
                refine ⟨_, indexAddr_run ht hte ho w h1 (rep_arg he hix hc1').1 hi0 hin, g, n, cap, hmu, ?_⟩
                rw [Nat.eq_of_beq_eq_true hsz]
                simp
            · cases h
          · rename_i n sz get hm
            split at h
            · rename_i hsz
              simp only [Option.some.injEq] at h
              subst h
              refine PureOK.of rfl fun w S μ F act hw he hc => ?_
              obtain ⟨hc0, hc2⟩ := All.app hc
              obtain ⟨hc1, hc1'⟩ := All.app hc0
              obtain ⟨hmu, _⟩ := rep_arg he hx hc1
              obtain ⟨v', h1, h2⟩ := hw.res m _ hm
              rw [hmu] at h1
              injection h1 with h1
              rw [← h1] at h2
              obtain ⟨u, h3, h4⟩ := stable (Nat.eq_of_beq_eq_true hsz) h2 (rep_arg he hix hc1').1 hc2.1 hc2.2.1
              exact ⟨u, h3, h4 μ⟩
            · cases h
          · cases h
        · rename_i m g key
          split at h
          · rename_i e' sz f hm
            split at h
            · rename_i hsz
              simp only [Option.some.injEq] at h
              subst h
              refine PureOK.of rfl fun w S μ F act hw he hc => ?_
              obtain ⟨hc0, hc2⟩ := All.app hc
              obtain ⟨hc1, hc1'⟩ := All.app hc0
              obtain ⟨l, hg, hu, _⟩ := rep_arg he hx hc1
              obtain ⟨l', _, hg', hrows, _⟩ := hw.res g _ hm
              rw [hg] at hg'
              injection hg' with hg'
              obtain rfl := encG_inj hg'
              obtain ⟨xs, hown, _⟩ := hrows key
              have hi0 : 0 ≤ i := hc2.1
              have hin : i < ((f key).1 : Int) := hc2.2.1
              rcases hown.2 with ⟨_, e2⟩ | ⟨b, cap, cur, e1, _⟩
              · omega
              · refine ⟨_, indexAddr_run ht hte ho w (by rw [hu, e1]) (rep_arg he hix hc1').1 hi0 hin, l, b, (f key).1, cap, hg, e1, ?_⟩
                rw [Nat.eq_of_beq_eq_true hsz]
                simp
            · cases h
          · cases h
        · cases h
      · cases h
    · cases h
  · cases h

def extractEff (s : St) (x : Operand) (i : Nat) : Option Eff :=
  match arg s x with
  | some (c, .tup l) => match l[i]? with
    | some (g, cs) => match aggIf g cs with
      | some v => some ⟨c, v, []⟩
      | none => none
    | none => none
  | _ => none

theorem repTs_get {w : World} {S : Nat → Prop} {μ : Mu} : ∀ {l : List (Bool × List AC)} {us : List Value}, repTs w S μ l us → ∀ (i : Nat) (g : Bool) (cs : List AC), l[i]? = some (g, cs) →
    ∃ u us', us[i]? = some u ∧ reps w S μ cs us' ∧ (if g then u = .agg us'.toArray else us' = [u])
  | [], _, _, i, _, _, hi => by simp at hi
  | (g', cs') :: l, us, ⟨us', r, h, e, hl⟩, i, g, cs, hi => by
    cases i with
    | zero =>
      simp at hi
      obtain ⟨rfl, rfl⟩ := hi
      cases g' with
      | true =>
        simp only [if_true] at e
        subst e
        exact ⟨_, us', by simp, h, rfl⟩
      | false =>
        simp only [Bool.false_eq_true, if_false] at e
        obtain ⟨u, rfl, rfl⟩ := e
        exact ⟨u, [u], by simp, h, rfl⟩
    | succ i =>
      simp at hi
      obtain ⟨u, us'', h1, h2, h3⟩ := repTs_get hl i g cs hi
      refine ⟨u, us'', ?_, h2, h3⟩
      cases g' with
      | true =>
        simp only [if_true] at e
        subst e
        simpa using h1
      | false =>
        simp only [Bool.false_eq_true, if_false] at e
        obtain ⟨u', rfl, rfl⟩ := e
        simpa using h1

theorem extract_ok {P : Program} {o : Oper} {s : St} {x : Operand} {i : Nat} (ho : o.op = .extract x i) {E : Eff} (h : extractEff s x i = some E) : PureOK P o s E := by
  unfold extractEff at h
  split at h
  · rename_i c l hx
    split at h
    · rename_i g cs hl
      split at h
      · rename_i v hv
        simp only [Option.some.injEq] at h
        subst h
        refine PureOK.of rfl fun w S μ F act hw he hc => ?_
        obtain ⟨us, hxe, hr⟩ := rep_arg he hx hc
        obtain ⟨u, us', h1, h2, h3⟩ := repTs_get hr i g cs hl
        obtain ⟨u', h4, h5⟩ := rep_aggIf h2 hv
        have : u = u' := by
          cases g with
          | true => simp only [if_true] at h3 h4; rw [h3, h4]
          | false =>
            simp only [Bool.false_eq_true, if_false] at h3 h4
            rw [h3] at h4
            injection h4
        subst this
        exact ⟨u, by simp [execOp, ho, hxe, Instr.extract, h1], h5⟩
      · cases h
    · cases h
  · cases h

def nilCheckEff (s : St) (x : Operand) : Option Eff :=
  match arg s x with
  | some (c, .one (.ptr m off)) => some ⟨c, .one (.ptr m off), []⟩
  | some (c, .one (.pst sz get)) => some ⟨c, .one (.pst sz get), []⟩
  | some (c, .one (.pow m sz i j)) => some ⟨c, .one (.pow m sz i j), []⟩
  | some (c, .one (.clo g l)) => some ⟨c, .one (.clo g l), []⟩
  | _ => none

theorem nilCheck_ok {P : Program} {o : Oper} {s : St} {x : Operand} (ho : o.op = .nilCheck x) {E : Eff} (h : nilCheckEff s x = some E) : PureOK P o s E := by
  unfold nilCheckEff at h
  split at h
  · rename_i c m off hx
    simp only [Option.some.injEq] at h
    subst h
    refine PureOK.of rfl fun w S μ F act hw he hc => ?_
    have hr := rep_arg he hx hc
    obtain ⟨b, hb, hxe⟩ := id hr
    exact ⟨_, by simp [execOp, ho, hxe], hxe ▸ hr⟩
  · rename_i c sz get hx
    simp only [Option.some.injEq] at h
    subst h
    refine PureOK.of rfl fun w S μ F act hw he hc => ?_
    have hr := rep_arg he hx hc
    obtain ⟨b, q, hxe, _⟩ := id hr
    exact ⟨_, by simp [execOp, ho, hxe], hxe ▸ hr⟩
  · rename_i c m sz i j hx
    simp only [Option.some.injEq] at h
    subst h
    refine PureOK.of rfl fun w S μ F act hw he hc => ?_
    have hr := rep_arg he hx hc
    obtain ⟨b, n, cc, hb, hxe⟩ := id hr
    exact ⟨_, by simp [execOp, ho, hxe], hxe ▸ hr⟩
  · rename_i c g l hx
    simp only [Option.some.injEq] at h
    subst h
    refine PureOK.of rfl fun w S μ F act hw he hc => ?_
    have hr := rep_arg he hx hc
    obtain ⟨us, hxe, hp⟩ := id hr
    exact ⟨_, by simp [execOp, ho, hxe], hxe ▸ hr⟩
  · cases h
end Go.Eng
