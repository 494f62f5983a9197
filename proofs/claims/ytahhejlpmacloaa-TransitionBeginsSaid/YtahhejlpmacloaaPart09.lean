/- A program logic over abstract states, part Q: a region that draws its order, walked in the order of its text. -/
import Derived.Test.YtahhejlpmacloaaPart08
import Derived.Maps.RangeRun
import Derived.Scope
namespace Go.Eng
open Go

def tmpOf : Operand → Option Nat
  | .tmp t => some t
  | _ => none

def optList : Option Nat → List Nat
  | some d => [d]
  | none => []

def usesOf (ops : List Oper) (o : Oper) : List Nat :=
  o.op.operands.toList.filterMap tmpOf ++ (match o.guard with | some (j, _) => optList (dstOf ops j) | none => [])

abbrev Item := Oper × Eff × List Nat

def runIt (T : Tab) (G : List (Nat × FSpec)) (N : Nat) (ops : List Oper) : List Oper → Nat → St → Option (List Item × St)
  | [], _, s => some ([], s)
  | o :: l, nb, s => forceN nb fun nb => match stepEff T G N ops s nb o with
    | none => none
    | some E => match runIt T G N ops l (nb + 16) (s.app o.dst E) with
      | none => none
      | some (it, s') => some ((o, E, reads s o.op) :: it, s')

def condsOf : List Item → List Prop
  | [] => []
  | (_, E, _) :: l => E.cond ++ condsOf l

def keysOf : List (Nat × Res) → List Nat
  | [] => []
  | (m, _) :: l => m :: keysOf l

def memB (l : List Nat) (x : Nat) : Bool :=
  match l with
  | [] => false
  | y :: l => match Nat.beq y x with
    | true => true
    | false => memB l x

def meetB : List Nat → List Nat → Bool
  | [], _ => false
  | x :: l, l' => match memB l' x with
    | true => true
    | false => meetB l l'

def isNil {α : Type} : List α → Bool
  | [] => true
  | _ => false

def confl (ops : List Oper) (x y : Item) : Bool :=
  meetB (optList x.1.dst) (usesOf ops y.1) || meetB (optList y.1.dst) (usesOf ops x.1) || meetB (optList x.1.dst) (optList y.1.dst) || (!isPure x.1.op && !isPure y.1.op) ||
    meetB (keysOf x.2.1.mem) y.2.2 || meetB (keysOf y.2.1.mem) x.2.2

def reachB (ops : List Oper) : Nat → Nat → Nat → Bool
  | 0, _, _ => false
  | f + 1, k, i => match nth ops k with
    | none => false
    | some o => o.after.toList.any fun e => Region.binds .any e && (Nat.beq e.on i || reachB ops f e.on i)

/-- Whatever two operations of which one could disturb the other are told apart by the text's edges. -/
def pairsB (ops : List Oper) (x : Item) (i : Nat) : Nat → List Item → Bool
  | _, [] => true
  | k, y :: l => (!confl ops x y || reachB ops 8 k i) && pairsB ops x i (k + 1) l

def checkB (ops : List Oper) : Nat → List Item → Bool
  | _, [] => true
  | i, x :: l => (!isPure x.1.op || isNil x.2.1.mem) && pairsB ops x i (i + 1) l && checkB ops (i + 1) l

/-- Each edge leads backwards. -/
def backB : Nat → List Oper → Bool
  | _, [] => true
  | i, o :: l => o.after.toList.all (fun e => !Region.binds .any e || Nat.blt e.on i) && backB (i + 1) l

theorem memB_ok {l : List Nat} {x : Nat} (h : x ∈ l) : memB l x = true := by
  induction l with
  | nil => cases h
  | cons y l ih =>
    simp only [memB]
    split
    · rfl
    · rename_i hb
      rcases List.mem_cons.1 h with rfl | h
      · exact absurd rfl (Nat.ne_of_beq_eq_false hb)
      · exact ih h

theorem meetB_ok {l l' : List Nat} {x : Nat} (h : x ∈ l) (h' : x ∈ l') : meetB l l' = true := by
  induction l with
  | nil => cases h
  | cons y l ih =>
    simp only [meetB]
    split
    · rfl
    · rename_i hb
      rcases List.mem_cons.1 h with rfl | h
      · rw [memB_ok h'] at hb; cases hb
      · exact ih h

theorem pairsB_ok {ops : List Oper} {x : Item} {i : Nat} : ∀ {l : List Item} {k : Nat}, pairsB ops x i k l = true → ∀ j y, l[j]? = some y → confl ops x y = true → reachB ops 8 (k + j) i = true
  | [], k, _, j, y, hj, _ => by simp at hj
  | z :: l, k, h, j, y, hj, hc => by
    simp only [pairsB, Bool.and_eq_true] at h
    cases j with
    | zero =>
      simp at hj
      subst hj
      have := h.1
      rw [hc] at this
      simpa using this
    | succ j =>
      have := pairsB_ok h.2 j y (by simpa using hj) hc
      rw [show k + (j + 1) = k + 1 + j from by omega]
      exact this

theorem checkB_ok {ops : List Oper} : ∀ {l : List Item} {k : Nat}, checkB ops k l = true → ∀ (i : Nat) (x : Item), l[i]? = some x → (isPure x.1.op = true → x.2.1.mem = []) ∧ ∀ (j : Nat) (y : Item), l[j]? = some y → i < j → confl ops x y = true → reachB ops 8 (k + j) (k + i) = true
  | [], k, _, i, x, hi => by simp at hi
  | z :: l, k, h, i, x, hi => by
    simp only [checkB, Bool.and_eq_true] at h
    obtain ⟨⟨h1, h2⟩, h3⟩ := h
    cases i with
    | zero =>
      simp at hi
      subst hi
      refine ⟨fun hp => ?_, fun j y hj hlt hc => ?_⟩
      · rw [hp] at h1
        simp only [Bool.not_true, Bool.false_or] at h1
        cases hm : z.2.1.mem with
        | nil => rfl
        | cons a b => rw [hm] at h1; cases h1
      · obtain ⟨j', rfl⟩ : ∃ j', j = j' + 1 := ⟨j - 1, by omega⟩
        have := pairsB_ok h2 j' y (by simpa using hj) hc
        rw [show k + (j' + 1) = k + 1 + j' from by omega, Nat.add_zero]
        exact this
    | succ i =>
      obtain ⟨g1, g2⟩ := checkB_ok h3 i x (by simpa using hi)
      refine ⟨g1, fun j y hj hlt hc => ?_⟩
      obtain ⟨j', rfl⟩ : ∃ j', j = j' + 1 := ⟨j - 1, by omega⟩
      have := g2 j' y (by simpa using hj) (by omega) hc
      rw [show k + (j' + 1) = k + 1 + j' from by omega, show k + (i + 1) = k + 1 + i from by omega]
      exact this

/-- A set of operations that holds what its members wait for. -/
def ClosedB (ops : List Oper) (b : Nat → Bool) : Prop := ∀ k o, ops[k]? = some o → b k = true → ∀ e ∈ o.after.toList, Region.binds .any e = true → b e.on = true

theorem reachB_ok {ops : List Oper} {b : Nat → Bool} (hb : ClosedB ops b) : ∀ (f k i : Nat), reachB ops f k i = true → b k = true → b i = true
  | 0, k, i, h, _ => by simp [reachB] at h
  | f + 1, k, i, h, hk => by
    simp only [reachB] at h
    split at h
    · cases h
    · rename_i o ho
      rw [nth_eq] at ho
      obtain ⟨e, he, hb1⟩ := List.any_eq_true.1 h
      simp only [Bool.and_eq_true, Bool.or_eq_true] at hb1
      obtain ⟨hbi, h2⟩ := hb1
      have hon := hb k o ho hk e he hbi
      rcases h2 with h2 | h2
      · rw [← Nat.eq_of_beq_eq_true h2]; exact hon
      · exact reachB_ok hb f e.on i h2 hon

/-- .. and for one whose every edge leads into the set. -/
theorem reachB_ready {ops : List Oper} {b : Nat → Bool} (hb : ClosedB ops b) {k i : Nat} {o : Oper} (ho : ops[k]? = some o) (hr : ∀ e ∈ o.after.toList, Region.binds .any e = true → b e.on = true) {f : Nat} (h : reachB ops f k i = true) : b i = true := by
  cases f with
  | zero => simp [reachB] at h
  | succ f =>
    simp only [reachB, nth_eq, ho] at h
    obtain ⟨e, he, hb1⟩ := List.any_eq_true.1 h
    simp only [Bool.and_eq_true, Bool.or_eq_true] at hb1
    obtain ⟨hbi, h2⟩ := hb1
    have hon := hr e he hbi
    rcases h2 with h2 | h2
    · rw [← Nat.eq_of_beq_eq_true h2]; exact hon
    · exact reachB_ok hb f e.on i h2 hon

/-- The state when just the operations of b have been done, in whatever order. -/
def stB : List Item → Nat → (Nat → Bool) → St → St
  | [], _, _, s => s
  | x :: l, k, b, s => stB l (k + 1) b (match b k with | true => s.app x.1.dst x.2.1 | false => s)

theorem app_env (s : St) (d : Option Nat) (E : Eff) : (s.app d E).env = putEnv d E.val s.env := by cases s; rfl
theorem app_mem (s : St) (d : Option Nat) (E : Eff) : (s.app d E).mem = E.mem ++ s.mem := by cases s; rfl

theorem look_putEnv (d : Option Nat) (v : AV) (env : List (Nat × AV)) (t : Nat) : look (putEnv d v env) t = if d = some t then some v else look env t := by
  cases d with
  | none => simp [putEnv]
  | some d => simp [putEnv, look_cons]

theorem stB_env {t : Nat} {b b' : Nat → Bool} : ∀ {l : List Item} {k : Nat} {s s' : St}, look s.env t = look s'.env t → (∀ j x, l[j]? = some x → x.1.dst = some t → b (k + j) = b' (k + j)) → look (stB l k b s).env t = look (stB l k b' s').env t
  | [], k, s, s', h, _ => h
  | x :: l, k, s, s', h, hb => by
    simp only [stB]
    refine stB_env ?_ (fun j y hj hd => by
      have := hb (j + 1) y (by simpa using hj) hd
      rw [show k + (j + 1) = k + 1 + j from by omega] at this
      exact this)
    by_cases hd : x.1.dst = some t
    · have := hb 0 x rfl hd
      rw [Nat.add_zero] at this
      rw [← this]
      cases b k with
      | true => simp [app_env, look_putEnv, hd]
      | false => exact h
    · have e1 : ∀ s : St, look (s.app x.1.dst x.2.1).env t = look s.env t := fun s => by rw [app_env, look_putEnv, if_neg hd]
      cases b k <;> cases b' k <;> simp [e1, h]

theorem stB_mem {b b' : Nat → Bool} : ∀ {l : List Item} {k : Nat} {s s' : St}, s.mem = s'.mem → (∀ j x, l[j]? = some x → x.2.1.mem ≠ [] → b (k + j) = b' (k + j)) → (stB l k b s).mem = (stB l k b' s').mem
  | [], k, s, s', h, _ => h
  | x :: l, k, s, s', h, hb => by
    simp only [stB]
    refine stB_mem ?_ (fun j y hj hd => by
      have := hb (j + 1) y (by simpa using hj) hd
      rw [show k + (j + 1) = k + 1 + j from by omega] at this
      exact this)
    by_cases hd : x.2.1.mem = []
    · have e1 : ∀ s : St, (s.app x.1.dst x.2.1).mem = s.mem := fun s => by rw [app_mem, hd, List.nil_append]
      cases b k <;> cases b' k <;> simp [e1, h]
    · have := hb 0 x rfl hd
      rw [Nat.add_zero] at this
      rw [← this]
      cases b k with
      | true => simp [app_mem, h]
      | false => exact h

theorem look_keys {M : List (Nat × Res)} {m : Nat} (h : m ∉ keysOf M) : look M m = none := by
  induction M with
  | nil => rfl
  | cons x l ih =>
    obtain ⟨k, r⟩ := x
    simp only [keysOf, List.mem_cons, not_or] at h
    rw [look_cons, if_neg (fun e => h.1 e.symm)]
    exact ih h.2

theorem stB_name {m : Nat} {b b' : Nat → Bool} : ∀ {l : List Item} {k : Nat} {s s' : St}, look s.mem m = look s'.mem m → (∀ j x, l[j]? = some x → m ∈ keysOf x.2.1.mem → b (k + j) = b' (k + j)) → look (stB l k b s).mem m = look (stB l k b' s').mem m
  | [], k, s, s', h, _ => h
  | x :: l, k, s, s', h, hb => by
    simp only [stB]
    refine stB_name ?_ (fun j y hj hd => by
      have := hb (j + 1) y (by simpa using hj) hd
      rw [show k + (j + 1) = k + 1 + j from by omega] at this
      exact this)
    by_cases hd : m ∈ keysOf x.2.1.mem
    · have := hb 0 x rfl hd
      rw [Nat.add_zero] at this
      rw [← this]
      cases b k with
      | true => simp [app_mem, look_append, h]
      | false => exact h
    · have e1 : ∀ s : St, look (s.app x.1.dst x.2.1).mem m = look s.mem m := fun s => by rw [app_mem, look_append, look_keys hd]
      cases b k <;> cases b' k <;> simp [e1, h]

/-- The last write of a slot. -/
theorem stB_last {t : Nat} {b : Nat → Bool} : ∀ {l : List Item} {k : Nat} {s : St} {i : Nat} {x : Item}, l[i]? = some x → x.1.dst = some t → b (k + i) = true → (∀ j y, l[j]? = some y → i < j → y.1.dst = some t → b (k + j) = false) →
    look (stB l k b s).env t = some x.2.1.val
  | [], k, s, i, x, hi, _, _, _ => by simp at hi
  | y :: l, k, s, i, x, hi, hd, hb, hl => by
    simp only [stB]
    cases i with
    | zero =>
      simp at hi
      subst hi
      rw [Nat.add_zero] at hb
      rw [hb]
      have := stB_env (t := t) (b := b) (b' := fun _ => false) (l := l) (k := k + 1) (s := s.app y.1.dst y.2.1) (s' := s.app y.1.dst y.2.1) rfl (fun j z hj hz => by
        have := hl (j + 1) z (by simpa using hj) (by omega) hz
        rw [show k + (j + 1) = k + 1 + j from by omega] at this
        exact this)
      rw [this]
      have none_ : ∀ (l : List Item) (k : Nat) (s : St), stB l k (fun _ => false) s = s := by
        intro l
        induction l with
        | nil => intros; rfl
        | cons z l ih => intro k s; simp only [stB]; exact ih _ _
      rw [none_, app_env, look_putEnv, if_pos hd]
    | succ i =>
      refine stB_last (i := i) (by simpa using hi) hd ?_ (fun j z hj hlt hz => ?_)
      · rw [show k + 1 + i = k + (i + 1) from by omega]; exact hb
      · have := hl (j + 1) z (by simpa using hj) (by omega) hz
        rw [show k + 1 + j = k + (j + 1) from by omega]
        exact this

/-- One more effect, behind all others. -/
theorem stB_more {b b' : Nat → Bool} : ∀ {l : List Item} {k : Nat} {s : St} {i : Nat} {x : Item}, l[i]? = some x → b (k + i) = false → b' (k + i) = true → (∀ j, j ≠ k + i → b' j = b j) → (∀ j y, l[j]? = some y → i < j → y.2.1.mem ≠ [] → b (k + j) = false) →
    (stB l k b' s).mem = x.2.1.mem ++ (stB l k b s).mem
  | [], k, s, i, x, hi, _, _, _, _ => by simp at hi
  | y :: l, k, s, i, x, hi, h1, h2, h3, h4 => by
    have none_ : ∀ (l : List Item) (k : Nat) (s : St) (b : Nat → Bool), (∀ j y, l[j]? = some y → y.2.1.mem ≠ [] → b (k + j) = false) → (stB l k b s).mem = s.mem := by
      intro l
      induction l with
      | nil => intros; rfl
      | cons z l ih =>
        intro k s b hb
        simp only [stB]
        rw [ih _ _ _ (fun j y hj hy => by
          have := hb (j + 1) y (by simpa using hj) hy
          rw [show k + 1 + j = k + (j + 1) from by omega]; exact this)]
        by_cases hz : z.2.1.mem = []
        · cases b k <;> simp [app_mem, hz]
        · have := hb 0 z rfl hz
          rw [Nat.add_zero] at this
          rw [this]
    simp only [stB]
    cases i with
    | zero =>
      simp at hi
      subst hi
      rw [Nat.add_zero] at h1 h2
      rw [h1, h2]
      simp only
      have hb : ∀ j z, l[j]? = some z → z.2.1.mem ≠ [] → b (k + 1 + j) = false := fun j z hj hz => by
        have := h4 (j + 1) z (by simpa using hj) (by omega) hz
        rw [show k + 1 + j = k + (j + 1) from by omega]; exact this
      rw [none_ l (k + 1) _ b hb, none_ l (k + 1) _ b' (fun j z hj hz => by rw [h3 _ (by omega)]; exact hb j z hj hz), app_mem]
    | succ i =>
      have e : b' k = b k := h3 k (by omega)
      rw [e]
      exact stB_more (i := i) (by simpa using hi) (by rw [show k + 1 + i = k + (i + 1) from by omega]; exact h1) (by rw [show k + 1 + i = k + (i + 1) from by omega]; exact h2)
        (fun j hj => h3 j (by omega)) (fun j z hj hlt hz => by
          have := h4 (j + 1) z (by simpa using hj) (by omega) hz
          rw [show k + 1 + j = k + (j + 1) from by omega]; exact this)

section
variable {P : Program} {T : Tab} {G : List (Nat × FSpec)} {N : Nat}

theorem runIt_ok {ops : List Oper} : ∀ {l : List Oper} {k nb : Nat} {s s' : St} {it : List Item}, runIt T G N ops l nb s = some (it, s') →
    it.length = l.length ∧ s' = stB it k (fun _ => true) s ∧ ∀ i o, l[i]? = some o → ∃ E, it[i]? = some (o, E, reads (stB it k (fun j => decide (j < k + i)) s) o.op) ∧ stepEff T G N ops (stB it k (fun j => decide (j < k + i)) s) (nb + 16 * i) o = some E
  | [], k, nb, s, s', it, h => by
    simp only [runIt, Option.some.injEq, Prod.mk.injEq] at h
    obtain ⟨rfl, rfl⟩ := h
    exact ⟨rfl, rfl, fun i o hi => by simp at hi⟩
  | o :: l, k, nb, s, s', it, h => by
    simp only [runIt, forceN_eq] at h
    split at h
    · cases h
    rename_i E hE
    split at h
    · cases h
    rename_i it1 s1 h1
    simp only [Option.some.injEq, Prod.mk.injEq] at h
    obtain ⟨rfl, rfl⟩ := h
    obtain ⟨g1, g2, g3⟩ := runIt_ok (k := k + 1) h1
    have none_ : ∀ (l : List Item) (k' : Nat) (s : St) (b : Nat → Bool), (∀ j, k' ≤ j → b j = false) → stB l k' b s = s := by
      intro l
      induction l with
      | nil => intros; rfl
      | cons z l ih => intro k' s b hb; simp only [stB]; rw [hb k' (Nat.le_refl _)]; exact ih _ _ _ (fun j hj => hb j (by omega))
    refine ⟨by simp [g1], by simp only [stB]; exact g2, fun i o' hi => ?_⟩
    cases i with
    | zero =>
      simp at hi
      subst hi
      refine ⟨E, ?_, ?_⟩
      · simp only [List.getElem?_cons_zero]
        rw [none_ _ _ _ _ (fun j hj => by simp; omega)]
      · rw [none_ _ _ _ _ (fun j hj => by simp; omega)]
        simpa using hE
    | succ i =>
      obtain ⟨E', e1, e2⟩ := g3 i o' (by simpa using hi)
      refine ⟨E', ?_, ?_⟩
      · simp only [List.getElem?_cons_succ, e1, stB]
        rw [show decide (k < k + (i + 1)) = true from by simp, show k + (i + 1) = k + 1 + i from by omega]
      · simp only [stB]
        rw [show decide (k < k + (i + 1)) = true from by simp, show k + (i + 1) = k + 1 + i from by omega, show nb + 16 * (i + 1) = nb + 16 + 16 * i from by omega]
        exact e2

theorem opnd_agree {s s' : St} {x : Operand} (h : ∀ t, tmpOf x = some t → look s.env t = look s'.env t) : opnd s x = opnd s' x := by
  cases x with
  | tmp t => exact h t rfl
  | _ => rfl

theorem stepEff_congr {ops : List Oper} {s s' : St} {nb : Nat} {o : Oper} {E : Eff} (hE : stepEff T G N ops s nb o = some E) (hu : ∀ t ∈ usesOf ops o, look s.env t = look s'.env t)
    (hm : isPure o.op = false → s.mem = s'.mem) (hp : isPure o.op = true → E.mem = [] ∧ ∀ m ∈ reads s o.op, look s.mem m = look s'.mem m) : stepEff T G N ops s' nb o = some E := by
  have hop : opEff T G s nb o.op = opEff T G s' nb o.op := by
    have ho : ∀ x ∈ o.op.operands.toList, opnd s x = opnd s' x := fun x hx => opnd_agree fun t ht => hu t (List.mem_append_left _ (List.mem_filterMap.2 ⟨x, hx, ht⟩))
    cases hpu : isPure o.op with
    | true => exact pure_congr hpu ho (hp hpu).2
    | false => exact opEff_congr ho (hm hpu)
  unfold stepEff at hE ⊢
  split at hE
  · cases hE
  rename_i hd
  split at hE
  · rename_i hg
    rw [← hop]
    simpa [hg] using hE
  · rename_i j want hg
    split at hE
    · cases hE
    rename_i d hdj
    split at hE
    · cases hE
    rename_i hdN
    split at hE
    · cases hE
    rename_i g hgb
    split at hE
    · cases hE
    rename_i E0 hE0
    have hlk : look s.env d = look s'.env d := hu d (List.mem_append_right _ (by rw [hg]; simp [hdj, optList]))
    have hgb' : guardB s' d want = some g := by
      unfold guardB at hgb ⊢
      rw [← hlk]
      exact hgb
    simp only [hgb', ← hop, hE0]
    cases hpu : isPure o.op with
    | false =>
      unfold guarded at hE ⊢
      rw [← hm hpu]
      exact hE
    | true =>
      have hnil := (hp hpu).1
      unfold guarded at hE ⊢
      split at hE
      · rename_i c mem hmm
        simp only [Option.some.injEq] at hE
        subst hE
        simp only at hnil
        subst hnil
        have h0 : E0.mem = [] := by
          cases hm0 : E0.mem with
          | nil => rfl
          | cons x l =>
            rw [hm0] at hmm
            obtain ⟨m, r⟩ := x
            cases r with
            | box ty cells =>
              simp only [mergeMem] at hmm
              repeat (split at hmm <;> try (first | cases hmm | (simp at hmm; done)))
            | _ =>
              simp only [mergeMem] at hmm
              repeat (split at hmm <;> try (first | cases hmm | (simp at hmm; done)))
        rw [h0] at hmm ⊢
        simp only [mergeMem, Option.some.injEq, Prod.mk.injEq] at hmm ⊢
        simp only [hmm.1]
      · cases hE
end
end Go.Eng

/- A program logic over abstract states, part R: the rule for a region that draws its order. -/
namespace Go.Eng
open Go

section
variable {P : Program} {T : Tab} {G : List (Nat × FSpec)} {N : Nat}

/-- What an operation needs of the state is told alike, whichever of the others that it may not wait for are done. -/
theorem same_told {ops : List Oper} {it : List Item} (hk : checkB ops 0 it = true) {b : Nat → Bool} (hb : ClosedB ops b) {i : Nat} {x : Item} {o : Oper} (hi : it[i]? = some x) (ho : ops[i]? = some o)
    (hr : ∀ e ∈ o.after.toList, Region.binds .any e = true → b e.on = true) (hbi : b i = false) {j : Nat} {y : Item} (hj : it[j]? = some y) (hc : confl ops y x = true) (hc' : confl ops x y = true) : b j = decide (j < i) := by
  rcases Nat.lt_trichotomy j i with h | h | h
  · have h1 := (checkB_ok hk j y hj).2 i x hi h hc
    simp only [Nat.zero_add] at h1
    rw [reachB_ready hb ho hr h1]
    simp [h]
  · subst h
    simp [hbi]
  · have h1 := (checkB_ok hk i x hi).2 j y hj h hc'
    simp only [Nat.zero_add] at h1
    have : b j = false := by
      cases hbj : b j with
      | false => rfl
      | true => rw [reachB_ok hb 8 j i h1 hbj] at hbi; cases hbi
    rw [this]
    simp
    omega

theorem confl_use {ops : List Oper} {x y : Item} {t : Nat} (h : x.1.dst = some t) (hu : t ∈ usesOf ops y.1) : confl ops x y = true ∧ confl ops y x = true := by
  have : meetB (optList x.1.dst) (usesOf ops y.1) = true := meetB_ok (x := t) (by simp [h, optList]) hu
  unfold confl
  simp [this]
theorem confl_dst {ops : List Oper} {x y : Item} {t : Nat} (h : x.1.dst = some t) (hu : y.1.dst = some t) : confl ops x y = true ∧ confl ops y x = true := by
  have h1 : meetB (optList x.1.dst) (optList y.1.dst) = true := meetB_ok (x := t) (by simp [h, optList]) (by simp [hu, optList])
  have h2 : meetB (optList y.1.dst) (optList x.1.dst) = true := meetB_ok (x := t) (by simp [hu, optList]) (by simp [h, optList])
  unfold confl
  simp [h1, h2]
theorem confl_imp {ops : List Oper} {x y : Item} (h : isPure x.1.op = false) (hu : isPure y.1.op = false) : confl ops x y = true ∧ confl ops y x = true := by
  unfold confl
  simp [h, hu]
theorem confl_read {ops : List Oper} {x y : Item} {m : Nat} (h : m ∈ keysOf x.2.1.mem) (hu : m ∈ y.2.2) : confl ops x y = true ∧ confl ops y x = true := by
  have : meetB (keysOf x.2.1.mem) y.2.2 = true := meetB_ok h hu
  unfold confl
  simp [this]

theorem condsOf_at : ∀ {it : List Item} {i : Nat} {x : Item}, All (condsOf it) → it[i]? = some x → All x.2.1.cond
  | [], i, x, _, hi => by simp at hi
  | (o, E, r) :: l, i, x, h, hi => by
    obtain ⟨h1, h2⟩ := All.app (show All (E.cond ++ condsOf l) from h)
    cases i with
    | zero =>
      simp at hi
      subst hi
      exact h1
    | succ i => exact condsOf_at h2 (by simpa using hi)

theorem backB_ok : ∀ {l : List Oper} {k : Nat}, backB k l = true → ∀ i o, l[i]? = some o → ∀ e ∈ o.after.toList, Region.binds .any e = true → e.on < k + i
  | [], k, _, i, o, hi => by simp at hi
  | p :: l, k, h, i, o, hi => by
    simp only [backB, Bool.and_eq_true] at h
    cases i with
    | zero =>
      simp at hi
      subst hi
      intro e he hb
      have := List.all_eq_true.1 h.1 e he
      rw [hb] at this
      simpa [Nat.blt_eq] using this
    | succ i =>
      intro e he hb
      have := backB_ok h.2 i o (by simpa using hi) e he hb
      omega

/-- The count of the operations that are still to come. -/
def left (l : Array Bool) : Nat := l.toList.count false

theorem left_set {l : Array Bool} {i : Nat} (hi : l.getD i true = false) : left (l.setIfInBounds i true) + 1 = left l := by
  have hlt : i < l.toList.length := by
    rcases Nat.lt_or_ge i l.size with h | h
    · simpa using h
    · simp [Array.getElem?_eq_none h] at hi
  have hlt' : i < l.size := by simpa using hlt
  have hf : l.toList[i] = false := by
    simpa [Array.getD, hlt'] using hi
  unfold left
  rw [Array.toList_setIfInBounds, List.count_set hlt, hf]
  have : 0 < l.toList.count false := List.count_pos_iff.2 (by rw [← hf]; exact List.getElem_mem hlt)
  simp only [show (false == false) = true from rfl, show (true == false) = false from rfl, if_true, Bool.false_eq_true, if_false]
  omega

theorem left_zero {l : Array Bool} (h : left l = 0) : ∀ i, l.getD i true = true := by
  intro i
  cases hg : l.getD i true with
  | true => rfl
  | false => have := left_set hg; omega

theorem stB_none : ∀ {l : List Item} {k : Nat} {s : St} {b : Nat → Bool}, (∀ j, b j = false) → stB l k b s = s
  | [], _, _, _, _ => rfl
  | x :: l, k, s, b, h => by
    simp only [stB, h k]
    exact stB_none h

theorem stB_congr : ∀ {l : List Item} {k : Nat} {s : St} {b b' : Nat → Bool}, (∀ j, k ≤ j → j < k + l.length → b j = b' j) → stB l k b s = stB l k b' s
  | [], _, _, _, _, _ => rfl
  | x :: l, k, s, b, b', h => by
    simp only [stB]
    rw [h k (Nat.le_refl _) (by simp)]
    exact stB_congr (fun j h1 h2 => h j (by omega) (by simp only [List.length_cons]; omega))

theorem repEnv_same {w : World} {S : Nat → Prop} {μ : Mu} {e e' : List (Nat × AV)} {tm : Array Value} (h : repEnv w S μ e tm) (he : ∀ t, look e' t = look e t) : repEnv w S μ e' tm :=
  fun i v hl => h i v (by rw [← he]; exact hl)

theorem W.regionDraw (hT : TabOK P T) (hG : GOK P G) {F : Fr} {nx : Nat} {s s' : St} {K : Exit → Nat → St → Prop} {id : Nat} {ops : Array Oper} {it : List Item} (h : runIt T G N ops.toList ops.toList nx s = some (it, s')) (hk : (checkB ops.toList 0 it && backB 0 ops.toList) = true)
    (hmix : P.follows .mixedOrders = true) (hc : All (condsOf it)) (hy : K .normal (nx + 16 * ops.size) s') : W P F N (.region id ops true) nx s K := by
  rw [Bool.and_eq_true] at hk
  obtain ⟨hck, hbk⟩ := hk
  obtain ⟨hlen, hs', hit⟩ := runIt_ok (k := 0) h
  simp only [Nat.zero_add] at hit
  intro a0 w0 hr0
  refine wp_region_any hmix ?_
  obtain ⟨hd0, hN0, hk0, S0, μ0, hw0, he0, hU0, hmu0⟩ := hr0
  have hF : ∀ j v, F.mu j = some v → j < nx := fun j v hj => by
    rcases Nat.lt_or_ge j nx with h | h
    · exact h
    · have := hmu0 j v hj
      rw [hU0 j h] at this
      cases this
  have hlen' : it.length = ops.size := by simpa using hlen
  suffices H : ∀ (fuel : Nat) (listed : Array Bool), listed.size = ops.size → left listed ≤ fuel → ClosedB ops.toList (fun j => listed.getD j false) → ∀ (a : Act) (w : World) (S : Nat → Prop) (μ : Mu), a.defers = [] → a.tmps.size = N →
      Wp F w S μ (stB it 0 (fun j => listed.getD j false) s).mem → repEnv w S μ (stB it 0 (fun j => listed.getD j false) s).env a.tmps →
      (∀ i, i < ops.size → listed.getD i false = false → ∀ m, nx + 16 * i ≤ m → m < nx + 16 * i + 16 → μ m = none) → (∀ m, nx + 16 * ops.size ≤ m → μ m = none) → (∀ j v, F.mu j = some v → μ j = some v) →
      wpAny P .any ops (fun e a' w' => ∃ nx' s', K e nx' s' ∧ RelN F N nx' s' a' w') fuel listed a w by
    have e : ∀ j, (Array.replicate ops.size false).getD j false = false := by
      intro j
      by_cases hlt : j < ops.size <;> simp [Array.getD, hlt]
    refine H ops.size _ (by simp) ?_ ?_ a0 _ S0 μ0 hd0 hN0 ?_ ?_ ?_ ?_ hmu0
    · unfold left
      simp
    · intro k o _ hb
      exact absurd (hb.symm.trans (e k)) (by simp)
    · rw [stB_none e]
      exact Wp.heap hw0 rfl rfl rfl rfl
    · rw [stB_none e]
      have k : Kp w0 { w0 with drawn := w0.drawn + 1 } S0 S0 μ0 μ0 := ⟨fun _ h => h, fun _ _ => rfl, fun _ _ h => h⟩
      exact repEnv_keep k he0
    · intro i _ _ m h1 _
      exact hU0 m (by omega)
    · intro m h1
      exact hU0 m (by omega)
  intro fuel
  induction fuel with
  | zero =>
    intro listed hsz hl hcl a w S μ hd hN hw he hU hU2 hmu
    have hall := left_zero (l := listed) (by omega)
    refine ⟨?_, ?_⟩
    · apply List.eq_nil_iff_forall_not_mem.2
      intro j hj
      have := (mem_ready.1 hj).1
      rw [hall] at this
      cases this
    · have e : stB it 0 (fun j => listed.getD j false) s = s' := by
        rw [hs']
        refine stB_congr fun j _ h2 => ?_
        have := hall j
        have hj : j < listed.size := by omega
        simpa [Array.getD, hj] using this
      rw [e] at hw he
      exact ⟨_, s', hy, hd, hN, hk0, S, μ, hw, he, hU2, hmu⟩
  | succ fuel ih =>
    intro listed hsz hl hcl a w S μ hd hN hw he hU hU2 hmu
    refine ⟨fun hnil => ?_, fun i hi => ?_⟩
    · -- nothing is ready: all is done
      have hall : ∀ j, j < ops.size → listed.getD j false = true := by
        intro j
        induction j using Nat.strongRecOn with
        | ind j ihj =>
          intro hj
          cases hg : listed.getD j false with
          | true => rfl
          | false =>
            exfalso
            have hj' : j < listed.size := by omega
            have : j ∈ Region.ready .any ops listed := mem_ready.2 ⟨by simpa [Array.getD, hj'] using hg, ops[j], Array.getElem?_eq_getElem hj, fun e he hb => ihj _ (by
              have := backB_ok hbk j ops[j] (by simp [hj]) e (by simpa using he) hb
              omega) (by
              have := backB_ok hbk j ops[j] (by simp [hj]) e (by simpa using he) hb
              omega)⟩
            rw [hnil] at this
            cases this
      have e : stB it 0 (fun j => listed.getD j false) s = s' := by
        rw [hs']
        exact stB_congr fun j _ h2 => hall j (by omega)
      rw [e] at hw he
      exact ⟨_, s', hy, hd, hN, hk0, S, μ, hw, he, hU2, hmu⟩
    · obtain ⟨hli, o, ho, hrd⟩ := mem_ready.1 hi
      have hio : i < ops.size := (Array.getElem?_eq_some_iff.1 ho).1
      have hil : i < listed.size := by omega
      have hbi : listed.getD i false = false := by simpa [Array.getD, hil] using hli
      have ho' : ops.toList[i]? = some o := by simpa using ho
      obtain ⟨E, hxi, hE⟩ := hit i o ho'
      have hrd' : ∀ e ∈ o.after.toList, Region.binds .any e = true → listed.getD e.on false = true := fun e he => hrd e (by simpa using he)
      -- whatever could disturb it is told alike
      have agree : ∀ {j : Nat} {y : Item}, it[j]? = some y → confl ops.toList y (o, E, reads (stB it 0 (fun j => decide (j < i)) s) o.op) = true → confl ops.toList (o, E, reads (stB it 0 (fun j => decide (j < i)) s) o.op) y = true → listed.getD j false = decide (j < i) :=
        fun hj h1 h2 => same_told hck (b := fun j => listed.getD j false) hcl hxi ho' hrd' hbi hj h1 h2
      have later : ∀ {j : Nat} {y : Item}, i < j → it[j]? = some y → confl ops.toList y (o, E, reads (stB it 0 (fun j => decide (j < i)) s) o.op) = true → confl ops.toList (o, E, reads (stB it 0 (fun j => decide (j < i)) s) o.op) y = true → listed.getD j false = false :=
        fun hlt hj h1 h2 => by rw [agree hj h1 h2]; simp; omega
      have pureMem := (checkB_ok hck i _ hxi).1
      have hE' : stepEff T G N ops.toList (stB it 0 (fun j => listed.getD j false) s) (nx + 16 * i) o = some E := by
        refine stepEff_congr hE (fun t ht => ?_) (fun hp => ?_) (fun hp => ⟨pureMem hp, fun m hm => ?_⟩)
        · refine stB_env rfl fun j y hj hd => ?_
          have := confl_use hd (y := (o, E, reads (stB it 0 (fun j => decide (j < i)) s) o.op)) ht
          rw [Nat.zero_add]
          exact (agree hj this.1 this.2).symm
        · refine stB_mem rfl fun j y hj hm => ?_
          have hpy : isPure y.1.op = false := by
            cases hpy : isPure y.1.op with
            | false => rfl
            | true => exact absurd ((checkB_ok hck j y hj).1 hpy) hm
          have := confl_imp (ops := ops.toList) hpy (y := (o, E, reads (stB it 0 (fun j => decide (j < i)) s) o.op)) hp
          rw [Nat.zero_add]
          exact (agree hj this.1 this.2).symm
        · refine stB_name rfl fun j y hj hmk => ?_
          have := confl_read (ops := ops.toList) hmk (y := (o, E, reads (stB it 0 (fun j => decide (j < i)) s) o.op)) hm
          rw [Nat.zero_add]
          exact (agree hj this.1 this.2).symm
      have hset : ∀ j, j ≠ i → (listed.setIfInBounds i true).getD j false = listed.getD j false := fun j hj => getD_set_ne false (Ne.symm hj)
      have hseti : (listed.setIfInBounds i true).getD i false = true := by simp [Array.getD, hil]
      have envE : ∀ t, look (stB it 0 (fun j => (listed.setIfInBounds i true).getD j false) s).env t = look ((stB it 0 (fun j => listed.getD j false) s).app o.dst E).env t := by
        intro t
        rw [app_env, look_putEnv]
        split
        · rename_i hd
          refine stB_last (i := i) hxi hd (by rw [Nat.zero_add]; exact hseti) fun j y hj hlt hdj => ?_
          have := confl_dst (ops := ops.toList) hdj (y := (o, E, reads (stB it 0 (fun j => decide (j < i)) s) o.op)) hd
          rw [Nat.zero_add]
          exact (hset j (by omega)).trans (later hlt hj this.1 this.2)
        · rename_i hd
          refine stB_env rfl fun j y hj hdj => ?_
          rw [Nat.zero_add]
          refine hset j fun e => ?_
          subst e
          rw [hj] at hxi
          injection hxi with hxi
          subst hxi
          exact hd hdj
      have memE : (stB it 0 (fun j => (listed.setIfInBounds i true).getD j false) s).mem = ((stB it 0 (fun j => listed.getD j false) s).app o.dst E).mem := by
        rw [app_mem]
        by_cases hm : E.mem = []
        · rw [hm, List.nil_append]
          refine stB_mem rfl fun j y hj hmj => ?_
          rw [Nat.zero_add]
          refine hset j fun e => ?_
          subst e
          rw [hj] at hxi
          injection hxi with hxi
          subst hxi
          exact hmj hm
        · have hpo : isPure o.op = false := by
            cases hpy : isPure o.op with
            | false => rfl
            | true => exact absurd (pureMem hpy) hm
          refine stB_more (i := i) hxi (by rw [Nat.zero_add]; exact hbi) (by rw [Nat.zero_add]; exact hseti) (fun j hj => hset j (by omega)) fun j y hj hlt hmj => ?_
          have hpy : isPure y.1.op = false := by
            cases hpy : isPure y.1.op with
            | false => rfl
            | true => exact absurd ((checkB_ok hck j y hj).1 hpy) hmj
          have := confl_imp (ops := ops.toList) hpy (y := (o, E, reads (stB it 0 (fun j => decide (j < i)) s) o.op)) hpo
          rw [Nat.zero_add]
          exact later hlt hj this.1 this.2
      have hcl' : ClosedB ops.toList (fun j => (listed.setIfInBounds i true).getD j false) := by
        intro k ok hok hk e he hb
        by_cases hki : k = i
        · subst hki
          rw [ho'] at hok
          injection hok with hok
          subst hok
          exact getD_set_true (hrd' e he hb)
        · have hk : listed.getD k false = true := (hset k hki).symm.trans hk
          exact getD_set_true (hcl k ok hok hk e he hb)
      have hcE : All E.cond := condsOf_at hc hxi
      have fresh : ∀ m, nx + 16 * i ≤ m → m < nx + 16 * i + 16 → μ m = none := hU i hio hbi
      have step := stepEff_ok hT hG hE' hd hN hw he fresh hcE (next := wpAny P .any ops (fun e a' w' => ∃ nx' s', K e nx' s' ∧ RelN F N nx' s' a' w') fuel (listed.setIfInBounds i true))
        (Q := fun e a' w' => ∃ nx' s', K e nx' s' ∧ RelN F N nx' s' a' w') (fun a' w' S' μ' d1 d2 d3 d4 d5 => by
          refine ih _ (by simpa using hsz) (by have := left_set hli; omega) hcl' a' w' S' μ' d1 d2 (by rw [memE]; exact d3) (repEnv_same d4 envE) (fun j hj hbj m h1 h2 => ?_) (fun m h1 => ?_) (fun j v hj => ?_)
          · have hji : j ≠ i := fun e => by subst e; rw [hseti] at hbj; cases hbj
            rw [d5 m (by omega)]
            exact hU j hj (by rw [← hset j hji]; exact hbj) m h1 h2
          · rw [d5 m (by omega)]
            exact hU2 m h1
          · have := hF j v hj
            rw [d5 j (by omega)]
            exact hmu j v hj)
      unfold wpOp
      rw [ho]
      exact step
end

theorem runIt_nil {T : Tab} {G : List (Nat × FSpec)} {N : Nat} {ops : List Oper} {nb : Nat} {s : St} : runIt T G N ops [] nb s = some ([], s) := rfl
/-- A long region is reckoned operation by operation. -/
theorem runIt_cons {T : Tab} {G : List (Nat × FSpec)} {N : Nat} {ops l : List Oper} {o : Oper} {nb : Nat} {s s' : St} {E : Eff} {it : List Item} (hE : stepEff T G N ops s nb o = some E) (h : runIt T G N ops l (nb + 16) (s.app o.dst E) = some (it, s')) :
    runIt T G N ops (o :: l) nb s = some ((o, E, reads s o.op) :: it, s') := by
  simp [runIt, forceN_eq, hE, h]
theorem runOps_nil {T : Tab} {G : List (Nat × FSpec)} {N : Nat} {ops : List Oper} {nb : Nat} {s : St} : runOps T G N ops [] nb s = some ([], s) := rfl
theorem runOps_cons {T : Tab} {G : List (Nat × FSpec)} {N : Nat} {ops l : List Oper} {o : Oper} {nb : Nat} {s s' : St} {E : Eff} {c : List Prop} (hE : stepEff T G N ops s nb o = some E) (h : runOps T G N ops l (nb + 16) (s.app o.dst E) = some (c, s')) :
    runOps T G N ops (o :: l) nb s = some (E.cond ++ c, s') := by
  simp [runOps, forceN_eq, hE, h]

theorem enters {P : Program} {g : Nat} {fn : Func} {c : Code} (hf : P.funcs[g]? = some fn) (hb : fn.body = some c) (hn : (fn.name == "runtime.NumGoroutine") = false) : Enters P g := by
  intro vs w
  unfold callFunc
  rw [Sem.run_bind]
  show Sem.run P (match P.funcs[g]? with | none => _ | some fn => _) w = _
  rw [hf]
  simp only [hn, hb, Option.isNone_some, Bool.false_eq_true, if_false]
  exact Sem.run_pure ..

theorem GOK.cons {P : Program} {G : List (Nat × FSpec)} {g : Nat} {sp : FSpec} (he : Enters P g) (hh : Holds P g sp) (h : GOK P G) : GOK P ((g, sp) :: G) := by
  intro g' sp' hl
  rw [Eng.look_cons] at hl
  split at hl
  · rename_i e
    injection hl with hl
    subst e hl
    exact ⟨he, hh⟩
  · exact h g' sp' hl
end Go.Eng

/- A program logic over abstract states, part S: a region step by step; a map ranged over; a scope. -/
set_option linter.unusedSimpArgs false
namespace Go.Eng
open Go
open Go.ChangeMaps (setBlock)

/-- What may come of an operation: one of the effects that Ok tells of. -/
def StepAny (P : Program) (o : Oper) (s : St) (Ok : Eff → Prop) (nb : Nat → Prop) : Prop :=
  ∀ (F : Fr) (w : World) (S : Nat → Prop) (μ : Mu) (a : Act), Wp F w S μ s.mem → repEnv w S μ s.env a.tmps → (∀ m, nb m → μ m = none) → ∀ (K : Act → World → Prop) (Q : Exit → Act → World → Prop),
    (∀ E u w' S' μ', Ok E → Kp w w' S S' μ μ' → Wp F w' S' μ' (E.mem ++ s.mem) → repAV w' S' μ' E.val u → (∀ m, ¬ nb m → μ' m = μ m) → K (a.put o.dst u) w') → o.wp P a w K Q

/-- The operations from the i-th on. -/
def WO (P : Program) (F : Fr) (N : Nat) (ops : Array Oper) (i nx : Nat) (s : St) (K : Exit → Nat → St → Prop) : Prop :=
  ∀ a w, RelN F N nx s a w → wpOps P ops (fun e a' w' => ∃ nx' s', K e nx' s' ∧ RelN F N nx' s' a' w') (List.range' i (ops.size - i)) a w

section
variable {P : Program} {T : Tab} {G : List (Nat × FSpec)} {F : Fr} {N nx : Nat} {s : St} {K : Exit → Nat → St → Prop} {ops : Array Oper} {i : Nat}

theorem W.byOps {id : Nat} (h : WO P F N ops 0 nx s K) : W P F N (.region id ops false) nx s K := by
  intro a w hr
  refine wp_region ?_
  rw [List.range_eq_range']
  exact h a w hr

theorem W.seqO {id : Nat} {y : Code} (h : WO P F N ops 0 nx s (thenK (fun nx' s' => W P F N y nx' s' K) K)) : W P F N (.seq (.region id ops false) y) nx s K := W.seq (W.byOps h)

theorem WO.done (hi : ops.size ≤ i) (h : K .normal nx s) : WO P F N ops i nx s K := by
  intro a w hr
  rw [show ops.size - i = 0 from by omega]
  exact ⟨nx, s, h, hr⟩

theorem runOps_pre (hT : TabOK P T) (hG : GOK P G) {Q : Exit → Act → World → Prop} {r : List Nat} : ∀ {l : List Oper} {i nb : Nat} {s s' : St} {c : List Prop}, runOps T G N ops.toList l nb s = some (c, s') → All c → (∀ j o, l[j]? = some o → ops[i + j]? = some o) →
    ∀ {a : Act} {w : World}, RelN F N nb s a w → (∀ a' w', RelN F N (nb + 16 * l.length) s' a' w' → wpOps P ops Q r a' w') → wpOps P ops Q (List.range' i l.length ++ r) a w
  | [], i, nb, s, s', c, h, hc, _, a, w, hR, hQ => by
    simp only [runOps, Option.some.injEq, Prod.mk.injEq] at h
    obtain ⟨rfl, rfl⟩ := h
    simp only [List.length_nil, List.range'_zero, List.nil_append]
    exact hQ a w hR
  | o :: l, i, nb, s, s', c, h, hc, hat, a, w, hR, hQ => by
    simp only [runOps, forceN_eq] at h
    split at h
    · cases h
    rename_i E hE
    split at h
    · cases h
    rename_i c1 s1 h1
    simp only [Option.some.injEq, Prod.mk.injEq] at h
    obtain ⟨rfl, rfl⟩ := h
    obtain ⟨hc0, hc1⟩ := All.app hc
    have hi : ops[i]? = some o := hat 0 o rfl
    rw [List.length_cons, List.range'_succ, List.cons_append]
    simp only [wpOps, hi]
    obtain ⟨hdf, hN, hk, S, μ, hw, he, hU, hmu⟩ := hR
    exact stepEff_ok hT hG hE hdf hN hw he (fun m h1 _ => hU m h1) hc0 (fun a' w' S' μ' d1 d2 d3 d4 d5 => runOps_pre hT hG h1 hc1 (fun j o' hj => by
        have := hat (j + 1) o' (by simpa using hj)
        rw [show i + 1 + j = i + (j + 1) from by omega]
        exact this) ⟨d1, d2, hk, S', μ', d3, d4, fun m hm => by
      have hm' : nb + 16 ≤ m := hm
      rw [d5 m (by omega)]
      exact hU m (show nb ≤ m by omega), fun j v hj => by
      have hv := hmu j v hj
      rw [d5 j (fun hf => by rw [hU j hf.1] at hv; cases hv)]
      exact hv⟩ (fun a' w' hR' => hQ a' w' (by rw [List.length_cons, show nb + 16 * (l.length + 1) = nb + 16 + 16 * l.length from by omega]; exact hR')))

/-- The next k operations, reckoned. -/
theorem WO.run (k : Nat) (hT : TabOK P T) (hG : GOK P G) {c : List Prop} {s' : St} (h : runOps T G N ops.toList ((ops.toList.drop i).take k) nx s = some (c, s')) (hk : Nat.ble (i + k) ops.size = true) (hc : All c) (hn : WO P F N ops (i + k) (nx + 16 * k) s' K) :
    WO P F N ops i nx s K := by
  intro a w hr
  have hk := Nat.le_of_ble_eq_true hk
  have hl : ((ops.toList.drop i).take k).length = k := by
    rw [List.length_take, List.length_drop, Array.length_toList]
    omega
  have := runOps_pre (F := F) hT hG (ops := ops) (Q := fun e a' w' => ∃ nx' s', K e nx' s' ∧ RelN F N nx' s' a' w') (r := List.range' (i + k) (ops.size - (i + k))) (i := i) h hc (fun j o hj => by
    rw [List.getElem?_take] at hj
    split at hj
    · rw [List.getElem?_drop] at hj
      simpa using hj
    · cases hj) hr (fun a' w' hr' => hn a' w' (by rw [hl] at hr'; exact hr'))
  rw [hl] at this
  rw [show ops.size - i = k + (ops.size - (i + k)) from by omega, ← List.range'_append_1]
  exact this

/-- One operation, of which more than one thing may come. -/
theorem WO.any {o : Oper} {Ok : Eff → Prop} (ho : nth ops.toList i = some o) (hg : o.guard = none) (hd : dstOK N o.dst = true) (h : StepAny P o s Ok (fun m => nx ≤ m ∧ m < nx + 16)) (hn : ∀ E, Ok E → WO P F N ops (i + 1) (nx + 16) (s.app o.dst E) K) : WO P F N ops i nx s K := by
  intro a w hr
  rw [nth_eq] at ho
  have hi : ops[i]? = some o := by simpa using ho
  have hlt : i < ops.size := (Array.getElem?_eq_some_iff.1 hi).1
  rw [show ops.size - i = (ops.size - (i + 1)) + 1 from by omega, List.range'_succ]
  simp only [wpOps, hi]
  have hwt : Region.wanted o (yielded ops a.tmps) = true := by simp [Region.wanted, hg]
  rw [if_pos hwt]
  obtain ⟨hdf, hN, hk, S, μ, hw, he, hU, hmu⟩ := hr
  refine .inl (h F w S μ a hw he (fun m hm => hU m hm.1) _ _ (fun E u w' S' μ' hE k hw' hv hm => hn E hE _ _ ⟨?_, ?_, hk, S', μ', hw', ?_, fun m hm' => ?_, fun j v hj => ?_⟩))
  · cases o.dst <;> exact hdf
  · cases hdo : o.dst with
    | none => exact hN
    | some d => simpa [Act.put] using hN
  · cases hdo : o.dst with
    | none => exact repEnv_keep k he
    | some d =>
      rw [hdo] at hd
      simp only [dstOK, Nat.blt_eq] at hd
      exact repEnv_put k he (by rw [hN]; exact hd) hv
  · have hm'' : nx + 16 ≤ m := hm'
    rw [hm m (by omega)]
    exact hU m (show nx ≤ m by omega)
  · have hv := hmu j v hj
    rw [hm j (fun hf => by rw [hU j hf.1] at hv; cases hv)]
    exact hv

/-- The state is told anew between two operations. -/
theorem WO.cut {ρ : Ren} {nx' : Nat} {t : St} (hm : Match ρ F.k nx' s t) (h : WO P F N ops i nx' t K) : WO P F N ops i nx s K := fun a w hr => h a w (hr.told hm)

theorem W.scope {c : Code} (h : W P F N c nx s (fun e nx s => match e with | .goto _ => False | e => K e nx s)) : W P F N (.scope c) nx s K := by
  intro a w hr
  refine wp_scope_straight (wp_mono (h a w hr) ?_)
  rintro e a' w' ⟨nx', s', hk, hr'⟩
  cases e with
  | goto l => exact hk.elim
  | _ => exact ⟨nx', s', hk, hr'⟩

theorem W.label {l : Nat} (h : K .normal nx s) : W P F N (.label l) nx s K := fun _ _ hr => wp_label ⟨nx, s, h, hr⟩

/-! ### a map ranged over -/
/-- The iterator's step: nothing is left, or some entry that has not been seen. -/
theorem next_any {o : Oper} {t m m' : Nat} {seen : List Nat} {r : Res} {a : AM} (ho : o.op = .next (.tmp t) false) (ht : look s.env t = some (.one (.it m))) (hm : look s.mem m = some (.iter m' a.c seen a.c)) (hm' : look s.mem m' = some r) (ha : amOf r = some a) (hg : ∀ n g, r = .mapR n g none a → ∃ e sz f, look s.mem g = some (.grp e sz f)) (nb : Nat → Prop) :
    StepAny P o s (fun E => a.WF ∧ ((E = ⟨[], .tup [(false, [.c (.val (.bool false))])], []⟩ ∧ ∀ e ∈ a.es, e.b ∈ seen) ∨
      ∃ e ∈ a.es, e.k.length = klen r ∧ e.b ∉ seen ∧ E = ⟨[], .tup [(false, [.c (.val (.bool true))]), keyT e.k, valT m' r e], [(m, .iter m' a.c (seen ++ [e.b]) a.c)]⟩)) nb := by
  intro F w S μ act hw he hnb K Q hK
  obtain ⟨hmu, ad, hxe⟩ := he t _ ht
  obtain ⟨b, bm, hmb, hmm, hit⟩ := hw.res m _ hm
  obtain ⟨⟨hwf, hkl⟩, bm', fv, hmb', hb, hval, hvr⟩ := map_block hw hm' ha
  rw [hmm] at hmb'
  injection hmb' with hmb'
  injection hmb' with hmb'
  injection hmb' with hmb'
  subst hmb'
  rw [hmu] at hmb
  injection hmb with hmb
  have hee : act.eval (.tmp t) = .pointer (some ⟨b, 0, none⟩) := hmb
  have hmu0 : μ m = some (.pointer (some ⟨b, 0, none⟩)) := by rw [hmu, hmb]
  rcases run_next_at (P := P) w o.type b bm a.c a.c seen.toArray _ a.c hit hb (by
    intro x hx
    simp only [List.toList_toArray] at hx
    obtain ⟨e, he, rfl⟩ := List.mem_map.1 hx
    exact hwf.born e he) (Nat.le_refl _) with ⟨h0, hrun⟩ | ⟨x, hx, w1, hw1, hrun⟩
  · refine wp_value (u := .tuple #[.bool false]) (w' := w) (by simp [execOp, ho, hee, hrun]) (hK ⟨[], .tup [(false, [.c (.val (.bool false))])], []⟩ _ w S μ ⟨hwf, .inl ⟨rfl, fun e he => ?_⟩⟩ (Kp.refl _ _ _) hw ⟨_, rfl, _, _, ⟨_, _, rfl, ⟨rfl, rfl⟩, rfl⟩, ⟨_, rfl, rfl⟩, rfl⟩ (fun _ _ => rfl))
    cases hc : seen.toArray.contains e.b with
    | true => simpa using hc
    | false =>
      have hmem : (⟨keyV e.k, fv e, e.b⟩ : MapEntry) ∈ leftOf (a.es.map (fun e => (⟨keyV e.k, fv e, e.b⟩ : MapEntry))).toArray seen.toArray := by
        unfold leftOf
        rw [Array.mem_filter]
        refine ⟨?_, by simpa using hc⟩
        simp
        exact ⟨e, he, rfl, rfl, rfl⟩
      have := Array.size_pos_of_mem hmem
      omega
  · obtain ⟨hx1, hx2⟩ := mem_left hx
    simp only [List.toList_toArray] at hx1
    obtain ⟨e, hem, rfl⟩ := List.mem_map.1 hx1
    have hnot : e.b ∉ seen := by simpa using hx2
    have hww : Wp F w1 S μ s.mem := by
      rcases hw1 with rfl | rfl
      · exact hw
      · exact hw.heap rfl rfl rfl rfl
    have hh1 : w1.heap = w.heap := by rcases hw1 with rfl | rfl <;> rfl
    have hO : Owns μ s.mem m b := ⟨_, _, hm, rfl, hmu0, List.mem_singleton.2 rfl⟩
    have hlt : b < w1.heap.size := by rw [hh1]; exact (Array.getElem?_eq_some_iff.1 hit).1
    have hsb : (setBlock w1 b (.mapIter (some bm) a.c (seen.toArray.push e.b) a.c)).heap[b]? = some (.mapIter (some bm) a.c (seen ++ [e.b]).toArray a.c) := by
      simp [setBlock, hlt]
    have hso : ∀ b', b' ≠ b → (setBlock w1 b (.mapIter (some bm) a.c (seen.toArray.push e.b) a.c)).heap[b']? = w1.heap[b']? := by
      intro b' hb'
      simp [setBlock, Array.getElem?_setIfInBounds_ne (Ne.symm hb')]
    have hwr := hww.writeG (w' := setBlock w1 b (.mapIter (some bm) a.c (seen.toArray.push e.b) a.c)) hO rfl rfl rfl (by simp [setBlock]) hso (.iter m' a.c (seen ++ [e.b]) a.c)
      (fun v' hv' b' hb' => ⟨_, v', hm, rfl, hv', hb'⟩) ⟨b, bm, hmu0, hmm, hsb⟩
    have hs := (hww.sep m b hO).1
    have kp : Kp w (setBlock w1 b (.mapIter (some bm) a.c (seen.toArray.push e.b) a.c)) S S μ μ := ⟨fun _ h => h, fun b' hb' => by
      rw [hso b' (by rintro rfl; exact hs hb'), hh1], fun _ _ h => h⟩
    refine wp_value (u := .tuple #[.bool true, keyV e.k, fv e]) (w' := setBlock w1 b (.mapIter (some bm) a.c (seen.toArray.push e.b) a.c)) (by simp [execOp, ho, hee, hrun])
      (hK ⟨[], .tup [(false, [.c (.val (.bool true))]), keyT e.k, valT m' r e], [(m, .iter m' a.c (seen ++ [e.b]) a.c)]⟩ _ _ S μ ⟨hwf, .inr ⟨e, hem, hkl e hem, hnot, rfl⟩⟩ kp hwr ?_ (fun _ _ => rfl))
    refine ⟨_, rfl, _, _, ⟨_, _, rfl, ⟨rfl, rfl⟩, rfl⟩, ⟨_, rfl, rfl⟩, rep_keyT e.k ?_⟩
    rcases hval with ⟨n, g, rfl⟩ | hval
    · obtain ⟨l, hgl, hfv⟩ := hvr n g rfl
      have hsl : ∃ A n c, valAt l e.k = .slice A n c := by
        obtain ⟨e0, sz0, f0, hg0⟩ := hg n g rfl
        obtain ⟨l2, _, hg2, hrows, _⟩ := hw.res g _ hg0
        rw [hgl] at hg2
        injection hg2 with hg2
        obtain rfl := encG_inj hg2
        obtain ⟨ys, hown, _⟩ := hrows e.k
        rcases hown.2 with ⟨hv, _⟩ | ⟨g', cap, cur, hv, _⟩
        · exact ⟨_, _, _, hv⟩
        · exact ⟨_, _, _, hv⟩
      exact ⟨[_], [], ⟨_, _, rfl, ⟨l, hgl, hfv e, by rw [hfv]; exact hsl⟩, rfl⟩, ⟨_, rfl, rfl⟩, rfl⟩
    · exact hval e hem _ _ _ [] [] rfl

/-- The entry that the iterator's last step has handed out. -/
theorem entry_any {o : Oper} {t m m' : Nat} {seen : List Nat} {r : Res} {a : AM} {e : MEnt} (ho : o.op = .entry (.tmp t)) (ht : look s.env t = some (.one (.it m))) (hm : look s.mem m = some (.iter m' a.c (seen ++ [e.b]) a.c)) (hm' : look s.mem m' = some r) (ha : amOf r = some a) (hg : ∀ n g, r = .mapR n g none a → ∃ e sz f, look s.mem g = some (.grp e sz f)) (he0 : e ∈ a.es) (nb : Nat → Prop) :
    StepAny P o s (fun E => E = ⟨[], .tup [keyT e.k, valT m' r e], []⟩) nb := by
  intro F w S μ act hw he hnb K Q hK
  obtain ⟨hmu, ad, hxe⟩ := he t _ ht
  obtain ⟨b, bm, hmb, hmm, hit⟩ := hw.res m _ hm
  obtain ⟨⟨hwf, hkl⟩, bm', fv, hmb', hb, hval, hvr⟩ := map_block hw hm' ha
  rw [hmm] at hmb'
  injection hmb' with hmb'
  injection hmb' with hmb'
  injection hmb' with hmb'
  subst hmb'
  rw [hmu] at hmb
  injection hmb with hmb
  have hee : act.eval (.tmp t) = .pointer (some ⟨b, 0, none⟩) := hmb
  have hit' : w.heap[b]? = some (.mapIter (some bm) a.c (seen.toArray.push e.b) a.c) := by rw [hit]; simp
  have hrun := run_entry_at (P := P) w b bm a.c seen.toArray _ a.c ⟨keyV e.k, fv e, e.b⟩ hit' hb (by
    simp only [List.toList_toArray]
    exact List.mem_map.2 ⟨e, he0, rfl⟩) (by
    simp only [List.toList_toArray, List.map_map, Function.comp_def]
    exact hwf.births)
  refine wp_value (u := .tuple #[keyV e.k, fv e]) (w' := w) (by simp [execOp, ho, hee, hrun]) (hK ⟨[], .tup [keyT e.k, valT m' r e], []⟩ _ w S μ rfl (Kp.refl _ _ _) hw ?_ (fun _ _ => rfl))
  refine ⟨_, rfl, rep_keyT e.k ?_⟩
  rcases hval with ⟨n, g, rfl⟩ | hval
  · obtain ⟨l, hgl, hfv⟩ := hvr n g rfl
    have hsl : ∃ A n c, valAt l e.k = .slice A n c := by
      obtain ⟨e0, sz0, f0, hg0⟩ := hg n g rfl
      obtain ⟨l2, _, hg2, hrows, _⟩ := hw.res g _ hg0
      rw [hgl] at hg2
      injection hg2 with hg2
      obtain rfl := encG_inj hg2
      obtain ⟨ys, hown, _⟩ := hrows e.k
      rcases hown.2 with ⟨hv, _⟩ | ⟨g', cap, cur, hv, _⟩
      · exact ⟨_, _, _, hv⟩
      · exact ⟨_, _, _, hv⟩
    exact ⟨[_], [], ⟨_, _, rfl, ⟨l, hgl, hfv e, by rw [hfv]; exact hsl⟩, rfl⟩, ⟨_, rfl, rfl⟩, rfl⟩
  · exact hval e he0 _ _ _ [] [] rfl

/-- How many entries are still to come. -/
def AM.left (a : AM) (seen : List Nat) : Nat := (a.es.filter fun e => !seen.contains e.b).length

theorem AM.left_lt {a : AM} {seen : List Nat} {e : MEnt} (he : e ∈ a.es) (hs : e.b ∉ seen) : a.left (seen ++ [e.b]) < a.left seen := by
  unfold AM.left
  generalize a.es = es at he
  have mono : ∀ l : List MEnt, (l.filter fun x => !(seen ++ [e.b]).contains x.b).length ≤ (l.filter fun x => !seen.contains x.b).length := by
    intro l
    induction l with
    | nil => exact Nat.le_refl _
    | cons x l ih =>
      by_cases h1 : x.b ∈ seen
      · simp [h1, List.filter_cons]
        simpa using ih
      · by_cases h2 : x.b = e.b
        · simp [h1, h2, List.filter_cons]
          have := ih
          simp at this
          by_cases h3 : e.b ∈ seen
          · exact absurd h3 hs
          · simp [h3]; omega
        · simp [h1, h2, List.filter_cons]
          simpa using ih
  induction es with
  | nil => cases he
  | cons x l ih =>
    rcases List.mem_cons.1 he with rfl | he
    · have := mono l
      simp at this
      simp [hs, List.filter_cons]
      omega
    · have := ih he
      simp at this
      by_cases h1 : x.b ∈ seen
      · simpa [h1, List.filter_cons] using this
      · by_cases h2 : x.b = e.b
        · simp [h1, h2, List.filter_cons, hs]
          omega
        · simpa [h1, h2, List.filter_cons] using this

/-! ### a row taken out, and put back as it lies -/
theorem WO.take {t m g : Nat} {k : List Int} {dl : List (Nat × Res)} (ht : look s.env t = some (.one (.mel m g k))) (he : takeEff s.mem nx m g k = some dl) (hn : WO P F N ops i (nx + 16) ⟨(t, .one (.own (nx + 2))) :: s.env, dl ++ s.mem⟩ K) : WO P F N ops i nx s K := by
  intro a w hr
  obtain ⟨hdf, hN, hk, S, μ, hw, hee, hU, hmu⟩ := hr
  obtain ⟨μ2, hw2, mo, hr2, hμ2⟩ := take_ok hw (hee t _ ht) he (hU _ (show nx ≤ nx + 1 by omega)) (hU _ (show nx ≤ nx + 2 by omega))
  have kp : Kp w w S S μ μ2 := ⟨fun _ h => h, fun _ _ => rfl, mo⟩
  refine hn a w ⟨hdf, hN, hk, S, μ2, hw2, ?_, fun m' hm' => ?_, fun j v hj => mo _ _ (hmu j v hj)⟩
  · intro j v hj
    rw [look_cons] at hj
    split at hj
    · rename_i e
      injection hj with hj
      subst e hj
      exact hr2
    · exact kp.av _ _ (hee j v hj)
  · have hm'' : nx + 16 ≤ m' := hm'
    rw [hμ2 _ (by omega) (by omega)]
    exact hU _ (show nx ≤ m' by omega)

/-- What lies in the map or the slice under the hole's key is told again as the group's. -/
def putEff (mem : List (Nat × Res)) (d m : Nat) : Option (List (Nat × Res)) :=
  match look mem m with
  | some (.mapR n g (some (k, q)) a) => match look mem g, look mem q with
    | some (.grp e sz f), some (.row e' sz' n' get) => match Nat.beq e e', Nat.beq sz sz' with
      | true, true => some [(d, .grp e sz (updF f k (n', get))), (m, .mapR n d none a), (q, .dead), (g, .dead)]
      | _, _ => none
    | _, _ => none
  | some (.rowR e0 g n (some (k, q))) => match look mem g, look mem q with
    | some (.grp e sz f), some (.row e' sz' n' get) => match Nat.beq e e', Nat.beq sz sz' with
      | true, true => some [(d, .grp e sz (updF f k (n', get))), (m, .rowR e0 d n none), (q, .dead), (g, .dead)]
      | _, _ => none
    | _, _ => none
  | _ => none

theorem put_ok {w : World} {S : Nat → Prop} {μ : Mu} {mem dl : List (Nat × Res)} (h : Wp F w S μ mem) {m d : Nat} (he : putEff mem d m = some dl) (hd : μ d = none) : ∃ μ2 : Mu, Wp F w S μ2 (dl ++ mem) ∧ (∀ x v, μ x = some v → μ2 x = some v) ∧ ∀ x, x ≠ d → μ2 x = μ x := by
  have val : ∀ {l : List (List Int × Value)} {k : List Int} {v : Value} (k' : List Int), valAt ((k, v) :: cutL l k) k' = valAt ((k, v) :: l) k' := by
    intro l k v k'
    rw [valAt_new]
    simp only [valAt]
    by_cases hk : k = k'
    · rw [if_pos hk.symm, if_pos hk]
    · rw [if_neg (Ne.symm hk), if_neg hk]
  unfold putEff at he
  split at he
  · rename_i n g k q a hm
    split at he
    rotate_left
    · cases he
    rename_i e sz f e' sz' n' get hg hq
    split at he
    rotate_left
    · cases he
    rename_i h1 h2
    obtain rfl := Nat.eq_of_beq_eq_true h1
    obtain rfl := Nat.eq_of_beq_eq_true h2
    simp only [Option.some.injEq] at he
    subst he
    obtain ⟨r, l, xs, hmu, hgl, hr, ⟨l', ⟨v, hqv, rfl⟩, hes, hnil⟩, hlen, hwf⟩ := h.res m _ hm
    have hgm : g ≠ m := by rintro rfl; rw [hg] at hm; cases hm
    have hqm : q ≠ m := by rintro rfl; rw [hq] at hm; cases hm
    obtain ⟨hw2, kp⟩ := h.putIn (k := k) (r' := .mapR n d none a) hg hgl hq hqv hm rfl hgm hqm hd (w' := w) rfl rfl rfl rfl (fun _ _ => rfl)
      (fun μ2 mo m1 => ⟨r, _, xs, mo _ _ hmu, m1, hr, ⟨_, rfl, entsR_congr val hes, fun k' hk' => by rw [val]; exact hnil k' hk'⟩, hlen, hwf⟩)
    exact ⟨_, hw2, kp.mu, fun x hx => setμ_ne _ _ hx⟩
  · rename_i e0 g n k q hm
    split at he
    rotate_left
    · cases he
    rename_i e sz f e' sz' n' get hg hq
    split at he
    rotate_left
    · cases he
    rename_i h1 h2
    obtain rfl := Nat.eq_of_beq_eq_true h1
    obtain rfl := Nat.eq_of_beq_eq_true h2
    simp only [Option.some.injEq] at he
    subst he
    obtain ⟨v0, l, xs, hmu, hgl, hown, l', ⟨v, hqv, rfl⟩, hx⟩ := h.res m _ hm
    have hgm : g ≠ m := by rintro rfl; rw [hg] at hm; cases hm
    have hqm : q ≠ m := by rintro rfl; rw [hq] at hm; cases hm
    obtain ⟨hw2, kp⟩ := h.putIn (k := k) (r' := .rowR e0 d n none) hg hgl hq hqv hm rfl hgm hqm hd (w' := w) rfl rfl rfl rfl (fun _ _ => rfl)
      (fun μ2 mo m1 => ⟨v0, _, xs, mo _ _ hmu, m1, hown, _, rfl, fun i hi => by rw [val]; exact hx i hi⟩)
    exact ⟨_, hw2, kp.mu, fun x hx => setμ_ne _ _ hx⟩
  · cases he

theorem WO.put {dl : List (Nat × Res)} (m : Nat) (he : putEff s.mem nx m = some dl) (hn : WO P F N ops i (nx + 16) ⟨s.env, dl ++ s.mem⟩ K) : WO P F N ops i nx s K := by
  intro a w hr
  obtain ⟨hdf, hN, hk, S, μ, hw, hee, hU, hmu⟩ := hr
  obtain ⟨μ2, hw2, mo, hμ2⟩ := put_ok hw he (hU _ (Nat.le_refl _))
  have kp : Kp w w S S μ μ2 := ⟨fun _ h => h, fun _ _ => rfl, mo⟩
  refine hn a w ⟨hdf, hN, hk, S, μ2, hw2, fun j v hj => kp.av _ _ (hee j v hj), fun m' hm' => ?_, fun j v hj => mo _ _ (hmu j v hj)⟩
  have hm'' : nx + 16 ≤ m' := hm'
  rw [hμ2 _ (by omega)]
  exact hU _ (show nx ≤ m' by omega)
end
end Go.Eng
