/- A program logic over abstract states, part J: names renamed; calls by contract. -/
import Derived.Test.YtahhejlpmacloaaPart03
namespace Go.Eng
open Go

def renPtrs (f : Nat → Nat) : List (Nat × Nat) → List (Nat × Nat)
  | [] => []
  | (m, off) :: l => (f m, off) :: renPtrs f l
def renAC (f : Nat → Nat) : AC → AC
  | .c x => .c x
  | .nil => .nil
  | .own m => .own (f m)
  | .ptr m off => .ptr (f m) off
  | .pst sz get => .pst sz get
  | .pow m sz i j => .pow (f m) sz i j
  | .clo g caps => .clo g (renPtrs f caps)
  | .map m => .map (f m)
  | .mel m g k => .mel (f m) (f g) k
  | .pel g k sz i j => .pel (f g) k sz i j
  | .it m => .it (f m)
  | .any => .any
def renACs (f : Nat → Nat) : List AC → List AC
  | [] => []
  | a :: l => renAC f a :: renACs f l
def renTs (f : Nat → Nat) : List (Bool × List AC) → List (Bool × List AC)
  | [] => []
  | (g, l) :: ts => (g, renACs f l) :: renTs f ts
def renAV (f : Nat → Nat) : AV → AV
  | .one a => .one (renAC f a)
  | .agg l => .agg (renACs f l)
  | .tup l => .tup (renTs f l)
  | .un => .un
  | .gd b v => .gd b (renAV f v)
def renH (f : Nat → Nat) : Option (List Int × Nat) → Option (List Int × Nat)
  | none => none
  | some (k, q) => some (k, f q)
def renRes (f : Nat → Nat) : Res → Res
  | .box ty cells => .box ty (renACs f cells)
  | .row e sz n get => .row e sz n get
  | .frz n sz get => .frz n sz get
  | .dead => .dead
  | .mapI n q a => .mapI n q a
  | .mapR n g hole a => .mapR n (f g) (renH f hole) a
  | .grp e sz get => .grp e sz get
  | .rowR e g n hole => .rowR e (f g) n (renH f hole)
  | .iter m since seen last => .iter (f m) since seen last
def renMem (f : Nat → Nat) : List (Nat × Res) → List (Nat × Res)
  | [] => []
  | (m, r) :: l => (f m, renRes f r) :: renMem f l

section
variable {w : World} {S : Nat → Prop} {μ μ' : Mu} {f : Nat → Nat}
theorem ren_ptrs (hf : ∀ j v, μ j = some v → μ' (f j) = some v) : ∀ {l : List (Nat × Nat)} {us : List Value}, repPtrs μ l us → repPtrs μ' (renPtrs f l) us
  | [], _, h => h
  | (_, _) :: _, _, ⟨b, r, h1, h2, h3⟩ => ⟨b, r, h1, hf _ _ h2, ren_ptrs hf h3⟩
theorem ren_ac (hf : ∀ j v, μ j = some v → μ' (f j) = some v) : ∀ {a : AC} {u : Value}, repAC w S μ a u → repAC w S μ' (renAC f a) u
  | .c _, _, h => h
  | .nil, _, h => h
  | .own _, _, ⟨h, h'⟩ => ⟨hf _ _ h, h'⟩
  | .ptr _ _, _, ⟨b, h, e⟩ => ⟨b, hf _ _ h, e⟩
  | .pst _ _, _, h => h
  | .pow _ _ _ _, _, ⟨b, n, c, h, e⟩ => ⟨b, n, c, hf _ _ h, e⟩
  | .clo _ _, _, ⟨us, e, h⟩ => ⟨us, e, ren_ptrs hf h⟩
  | .map _, _, ⟨h, h'⟩ => ⟨hf _ _ h, h'⟩
  | .mel _ _ _, _, ⟨l, h, e⟩ => ⟨l, hf _ _ h, e⟩
  | .pel _ _ _ _ _, _, ⟨l, b, n, c, h, e⟩ => ⟨l, b, n, c, hf _ _ h, e⟩
  | .it _, _, ⟨h, h'⟩ => ⟨hf _ _ h, h'⟩
  | .any, _, h => h
theorem ren_acs (hf : ∀ j v, μ j = some v → μ' (f j) = some v) : ∀ {l : List AC} {us : List Value}, reps w S μ l us → reps w S μ' (renACs f l) us
  | [], _, h => h
  | _ :: _, _, ⟨u, r, e, h, hl⟩ => ⟨u, r, e, ren_ac hf h, ren_acs hf hl⟩
theorem ren_ts (hf : ∀ j v, μ j = some v → μ' (f j) = some v) : ∀ {l : List (Bool × List AC)} {us : List Value}, repTs w S μ l us → repTs w S μ' (renTs f l) us
  | [], _, h => h
  | (_, _) :: _, _, ⟨cs, r, h, e, hl⟩ => ⟨cs, r, ren_acs hf h, e, ren_ts hf hl⟩
theorem ren_av (hf : ∀ j v, μ j = some v → μ' (f j) = some v) : ∀ {v : AV} {u : Value}, repAV w S μ v u → repAV w S μ' (renAV f v) u
  | .one _, _, h => ren_ac hf h
  | .agg _, _, ⟨us, e, h⟩ => ⟨us, e, ren_acs hf h⟩
  | .tup _, _, ⟨us, e, h⟩ => ⟨us, e, ren_ts hf h⟩
  | .un, _, _ => trivial
  | .gd _ _, _, h => ⟨fun hb => ren_av hf (h.1 hb), h.2⟩
theorem ren_holeL (hf : ∀ j v, μ j = some v → μ' (f j) = some v) : ∀ {hole : Option (List Int × Nat)} {l l' : List (List Int × Value)}, holeL μ hole l l' → holeL μ' (renH f hole) l l'
  | none, _, _, e => e
  | some (_, _), _, _, ⟨v, h1, h2⟩ => ⟨v, hf _ _ h1, h2⟩
theorem ren_res (hf : ∀ j v, μ j = some v → μ' (f j) = some v) {j : Nat} {r : Res} (h : repRes w S μ j r) : repRes w S μ' (f j) (renRes f r) := by
  cases r with
  | box ty cells =>
    obtain ⟨b, us, h1, h2, h3⟩ := h
    exact ⟨b, us, hf _ _ h1, h2, ren_acs hf h3⟩
  | row e sz n get =>
    obtain ⟨v, xs, h1, h2⟩ := h
    exact ⟨v, xs, hf _ _ h1, h2⟩
  | frz n sz get =>
    obtain ⟨v, h1, h2⟩ := h
    exact ⟨v, hf _ _ h1, h2⟩
  | dead => trivial
  | mapI n q a =>
    obtain ⟨r, h1, h2⟩ := h
    exact ⟨r, hf _ _ h1, h2⟩
  | mapR n g hole a =>
    obtain ⟨r, l, xs, h1, h2, h3, ⟨l', h4, h5⟩, h6⟩ := h
    exact ⟨r, l, xs, hf _ _ h1, hf _ _ h2, h3, ⟨l', ren_holeL hf h4, h5⟩, h6⟩
  | grp e sz get =>
    obtain ⟨l, hn, h1, h2⟩ := h
    exact ⟨l, hn, hf _ _ h1, h2⟩
  | rowR e g n hole =>
    obtain ⟨v, l, xs, h1, h2, h3, l', h4, h5⟩ := h
    exact ⟨v, l, xs, hf _ _ h1, hf _ _ h2, h3, l', ren_holeL hf h4, h5⟩
  | iter m since seen last =>
    obtain ⟨b, r, h1, h2, h3⟩ := h
    exact ⟨b, r, hf _ _ h1, hf _ _ h2, h3⟩
theorem ren_live (f : Nat → Nat) (r : Res) : (renRes f r).live = r.live := by cases r <;> rfl

theorem look_ren {B : Nat} (inj : ∀ j j', j < B → j' < B → f j = f j' → j = j') : ∀ {M : List (Nat × Res)}, (∀ j r, (j, r) ∈ M → j < B) → ∀ {m : Nat} {r : Res}, look (renMem f M) m = some r →
    ∃ j r0, look M j = some r0 ∧ f j = m ∧ r = renRes f r0
  | [], _, m, r, h => by simp [renMem, look] at h
  | (j0, r0) :: M, hB, m, r, h => by
    simp only [renMem] at h
    rw [look_cons] at h
    split at h
    · rename_i e
      injection h with h
      exact ⟨j0, r0, by rw [look_cons, if_pos rfl], e, h.symm⟩
    · rename_i hne
      obtain ⟨j, r1, h1, h2, h3⟩ := look_ren inj (fun j r hj => hB j r (List.mem_cons_of_mem _ hj)) h
      refine ⟨j, r1, ?_, h2, h3⟩
      rw [look_cons, if_neg]
      · exact h1
      · rintro rfl
        exact hne h2

theorem look_ren_none {B : Nat} : ∀ {M : List (Nat × Res)}, (∀ j r, (j, r) ∈ M → j < B) → ∀ {m : Nat}, look (renMem f M) m = none → ∀ j r, look M j = some r → f j ≠ m
  | [], _, m, _, j, r, hj => by simp [look] at hj
  | (j0, r0) :: M, hB, m, h, j, r, hj => by
    simp only [renMem] at h
    rw [look_cons] at h hj
    split at h
    · cases h
    · rename_i hne
      split at hj
      · rename_i e
        subst e
        exact hne
      · exact look_ren_none (fun j r hj => hB j r (List.mem_cons_of_mem _ hj)) h j r hj
end

theorem look_mem {α : Type} : ∀ {l : List (Nat × α)} {i : Nat} {v : α}, look l i = some v → (i, v) ∈ l
  | [], i, v, h => by simp [look] at h
  | (k, x) :: l, i, v, h => by
    rw [look_cons] at h
    split at h
    · rename_i e
      injection h with h
      subst e h
      exact List.mem_cons_self
    · exact List.mem_cons_of_mem _ (look_mem h)

theorem look_append {α : Type} : ∀ (l l' : List (Nat × α)) (i : Nat), look (l ++ l') i = match look l i with | some v => some v | none => look l' i
  | [], _, _ => rfl
  | (k, x) :: l, l', i => by
    rw [List.cons_append, look_cons, look_cons]
    split
    · rfl
    · exact look_append l l' i

structure Out where
  cond : List Prop
  val : AV
  mem : List (Nat × Res)

/-- What a function does, told over values and over the boxes that it is handed (names 0, 1, ..). -/
abbrev FSpec := List AV → List Res → Option Out

def idxMem : Nat → List Res → List (Nat × Res)
  | _, [] => []
  | j, r :: l => (j, r) :: idxMem (j + 1) l

def repAVs (w : World) (S : Nat → Prop) (μ : Mu) : List AV → List Value → Prop
  | [], us => us = []
  | v :: l, us => ∃ u r, us = u :: r ∧ repAV w S μ v u ∧ repAVs w S μ l r

def frOf (w : World) (S : Nat → Prop) (μ : Mu) (k : Nat) : Fr := ⟨w, fun b => ∃ j v, μ j = some v ∧ b ∈ blks v, S, μ, k⟩

def Holds (P : Program) (g : Nat) (sp : FSpec) : Prop :=
  ∀ (args : List AV) (bs : List Res) (out : Out), sp args bs = some out → All out.cond →
    ∀ (w : World) (S : Nat → Prop) (μ : Mu) (vs : List Value), Wp (frOf w S μ bs.length) w S μ (idxMem 0 bs) → repAVs w S μ args vs → (∀ m, bs.length ≤ m → μ m = none) →
      Calls P g vs.toArray w fun e w' => ∃ u S' μ', e = .returned u ∧ Kp w w' S S' μ μ' ∧ Wp (frOf w S μ bs.length) w' S' μ' out.mem ∧ repAV w' S' μ' out.val u ∧ ∀ m, bs.length + 16 ≤ m → μ' m = none

/-! ### the arguments of a call, told for the callee -/
def idxOf : List Nat → Nat → Nat → Option Nat
  | [], _, _ => none
  | x :: l, m, j => match Nat.beq x m with
    | true => some j
    | false => idxOf l m (j + 1)

def locPtr (ms : List Nat) (m : Nat) : Nat × List Nat :=
  match idxOf ms m 0 with
  | some j => (j, ms)
  | none => (ms.length, ms ++ [m])

def argPtrs (ms : List Nat) : List (Nat × Nat) → List (Nat × Nat) × List Nat
  | [] => ([], ms)
  | (m, off) :: l => match locPtr ms m with
    | (j, ms) => match argPtrs ms l with
      | (r, ms) => ((j, off) :: r, ms)

def argAC (ms : List Nat) (mem : List (Nat × Res)) : AC → Option (AC × List Nat × List (Nat × Res))
  | .c x => some (.c x, ms, [])
  | .nil => some (.nil, ms, [])
  | .pst sz get => some (.pst sz get, ms, [])
  | .own m => match idxOf ms m 0 with
    | some j => some (.own j, ms, [])
    | none => match toCell mem (.own m) with
      | some (x, d) => some (.c x, ms, d)
      | none => none
  | .ptr m off => match locPtr ms m with
    | (j, ms) => some (.ptr j off, ms, [])
  | .clo g caps => match argPtrs ms caps with
    | (r, ms) => some (.clo g r, ms, [])
  | .pow _ _ _ _ => none
  | .map m => match locPtr ms m with
    | (j, ms) => some (.map j, ms, [])
  | .mel m g k => match toCell mem (.mel m g k) with
    | some (x, d) => some (.c x, ms, d)
    | none => none
  | .pel _ _ _ _ _ => none
  | .it _ => none
  | .any => some (.any, ms, [])

def argACs (ms : List Nat) (mem : List (Nat × Res)) : List AC → Option (List AC × List Nat × List (Nat × Res))
  | [] => some ([], ms, [])
  | a :: l => match argAC ms mem a with
    | none => none
    | some (a', ms', d) => match argACs ms' (d ++ mem) l with
      | none => none
      | some (l', ms'', d') => some (a' :: l', ms'', d' ++ d)

def argAV (ms : List Nat) (mem : List (Nat × Res)) : AV → Option (AV × List Nat × List (Nat × Res))
  | .one a => match argAC ms mem a with
    | some (a', ms', d) => some (.one a', ms', d)
    | none => none
  | .agg l => match argACs ms mem l with
    | some (l', ms', d) => some (.agg l', ms', d)
    | none => none
  | _ => none

def argAVs (ms : List Nat) (mem : List (Nat × Res)) : List AV → Option (List AV × List Nat × List (Nat × Res))
  | [] => some ([], ms, [])
  | a :: l => match argAV ms mem a with
    | none => none
    | some (a', ms', d) => match argAVs ms' (d ++ mem) l with
      | none => none
      | some (l', ms'', d') => some (a' :: l', ms'', d' ++ d)

def locμ (μ : Mu) (ms : List Nat) : Mu := fun j => match ms[j]? with
  | some m => μ m
  | none => none

section
variable {w : World} {S : Nat → Prop} {μ : Mu} {F : Fr}

theorem idxOf_ok : ∀ {ms : List Nat} {m k j : Nat}, idxOf ms m k = some j → k ≤ j ∧ ms[j - k]? = some m
  | [], m, k, j, h => by simp [idxOf] at h
  | x :: l, m, k, j, h => by
    simp only [idxOf] at h
    split at h
    · rename_i e
      injection h with h
      subst h
      obtain rfl := Nat.eq_of_beq_eq_true e
      simp
    · obtain ⟨h1, h2⟩ := idxOf_ok h
      refine ⟨by omega, ?_⟩
      rw [show j - k = (j - (k + 1)) + 1 from by omega]
      simpa using h2

theorem locPtr_ok {ms ms' : List Nat} {m j : Nat} (h : locPtr ms m = (j, ms')) : ms'[j]? = some m ∧ ∃ t, ms' = ms ++ t := by
  unfold locPtr at h
  split at h
  · rename_i j' hj
    simp only [Prod.mk.injEq] at h
    obtain ⟨rfl, rfl⟩ := h
    have := (idxOf_ok hj).2
    exact ⟨by simpa using this, [], by simp⟩
  · simp only [Prod.mk.injEq] at h
    obtain ⟨rfl, rfl⟩ := h
    exact ⟨by simp, [m], rfl⟩

theorem locμ_get {ms : List Nat} {j m : Nat} (h : ms[j]? = some m) : locμ μ ms j = μ m := by simp [locμ, h]
theorem locμ_ext (ms t : List Nat) : ∀ j v, locμ μ ms j = some v → locμ μ (ms ++ t) j = some v := by
  intro j v h
  unfold locμ at h ⊢
  split at h
  · rename_i m hm
    rw [List.getElem?_append_left (List.getElem?_eq_some_iff.1 hm).1, hm]
    exact h
  · cases h

theorem kp_ext (w : World) (S : Nat → Prop) (ms t : List Nat) : Kp w w S S (locμ μ ms) (locμ μ (ms ++ t)) := ⟨fun _ h => h, fun _ _ => rfl, locμ_ext ms t⟩

theorem argPtrs_ok : ∀ {l r : List (Nat × Nat)} {ms ms' : List Nat} {us : List Value}, repPtrs μ l us → argPtrs ms l = (r, ms') → (∃ t, ms' = ms ++ t) ∧ repPtrs (locμ μ ms') r us
  | [], r, ms, ms', us, h, e => by
    simp only [argPtrs, Prod.mk.injEq] at e
    obtain ⟨rfl, rfl⟩ := e
    exact ⟨⟨[], by simp⟩, h⟩
  | (m, off) :: l, r, ms, ms', us, ⟨b, us', h1, h2, h3⟩, e => by
    rcases hj : locPtr ms m with ⟨j, ms1⟩
    rcases hr : argPtrs ms1 l with ⟨r1, ms2⟩
    simp only [argPtrs, hj, hr, Prod.mk.injEq] at e
    obtain ⟨rfl, rfl⟩ := e
    obtain ⟨g1, t1, rfl⟩ := locPtr_ok hj
    obtain ⟨⟨t2, rfl⟩, g2⟩ := argPtrs_ok h3 hr
    refine ⟨⟨t1 ++ t2, by simp⟩, b, us', h1, ?_, g2⟩
    exact locμ_ext _ t2 _ _ (by rw [locμ_get g1]; exact h2)

theorem argAC_ok {mem : List (Nat × Res)} (hw : Wp F w S μ mem) {a a' : AC} {ms ms' : List Nat} {d : List (Nat × Res)} {u : Value} (h : repAC w S μ a u) (e : argAC ms mem a = some (a', ms', d)) :
    ∃ S', (∀ b, S b → S' b) ∧ Wp F w S' μ (d ++ mem) ∧ (∃ t, ms' = ms ++ t) ∧ repAC w S' (locμ μ ms') a' u := by
  cases a with
  | c x =>
    simp only [argAC, Option.some.injEq, Prod.mk.injEq] at e
    obtain ⟨rfl, rfl, rfl⟩ := e
    exact ⟨S, fun _ h => h, hw, ⟨[], by simp⟩, h⟩
  | nil =>
    simp only [argAC, Option.some.injEq, Prod.mk.injEq] at e
    obtain ⟨rfl, rfl, rfl⟩ := e
    exact ⟨S, fun _ h => h, hw, ⟨[], by simp⟩, h⟩
  | pst sz get =>
    simp only [argAC, Option.some.injEq, Prod.mk.injEq] at e
    obtain ⟨rfl, rfl, rfl⟩ := e
    exact ⟨S, fun _ h => h, hw, ⟨[], by simp⟩, h⟩
  | own m =>
    simp only [argAC] at e
    split at e
    · rename_i j hj
      simp only [Option.some.injEq, Prod.mk.injEq] at e
      obtain ⟨rfl, rfl, rfl⟩ := e
      exact ⟨S, fun _ h => h, hw, ⟨[], by simp⟩, by rw [locμ_get (by simpa using (idxOf_ok hj).2)]; exact h.1, h.2⟩
    split at e
    · rename_i x d' hx
      simp only [Option.some.injEq, Prod.mk.injEq] at e
      obtain ⟨rfl, rfl, rfl⟩ := e
      obtain ⟨S', h1, h2, h3⟩ := rep_toCell hw h hx
      exact ⟨S', h1, h2, ⟨[], by simp⟩, h3⟩
    · cases e
  | ptr m off =>
    rcases hj : locPtr ms m with ⟨j, ms1⟩
    simp only [argAC, hj, Option.some.injEq, Prod.mk.injEq] at e
    obtain ⟨rfl, rfl, rfl⟩ := e
    obtain ⟨g1, t1, rfl⟩ := locPtr_ok hj
    obtain ⟨b, h1, h2⟩ := h
    exact ⟨S, fun _ h => h, hw, ⟨t1, rfl⟩, b, by rw [locμ_get g1]; exact h1, h2⟩
  | clo g caps =>
    rcases hr : argPtrs ms caps with ⟨r, ms1⟩
    simp only [argAC, hr, Option.some.injEq, Prod.mk.injEq] at e
    obtain ⟨rfl, rfl, rfl⟩ := e
    obtain ⟨us, h1, h2⟩ := h
    obtain ⟨g1, g2⟩ := argPtrs_ok h2 hr
    exact ⟨S, fun _ h => h, hw, g1, us, h1, g2⟩
  | pow m sz i j => simp [argAC] at e
  | pel g k sz i j => simp [argAC] at e
  | it m => simp [argAC] at e
  | any =>
    simp only [argAC, Option.some.injEq, Prod.mk.injEq] at e
    obtain ⟨rfl, rfl, rfl⟩ := e
    exact ⟨S, fun _ h => h, hw, ⟨[], by simp⟩, h⟩
  | map m =>
    rcases hj : locPtr ms m with ⟨j, ms1⟩
    simp only [argAC, hj, Option.some.injEq, Prod.mk.injEq] at e
    obtain ⟨rfl, rfl, rfl⟩ := e
    obtain ⟨g1, t1, rfl⟩ := locPtr_ok hj
    obtain ⟨h1, h2⟩ := h
    exact ⟨S, fun _ h => h, hw, ⟨t1, rfl⟩, by rw [locμ_get g1]; exact h1, h2⟩
  | mel m g k =>
    simp only [argAC] at e
    split at e
    · rename_i x d' hx
      simp only [Option.some.injEq, Prod.mk.injEq] at e
      obtain ⟨rfl, rfl, rfl⟩ := e
      obtain ⟨S', h1, h2, h3⟩ := rep_toCell hw h hx
      exact ⟨S', h1, h2, ⟨[], by simp⟩, h3⟩
    · cases e

theorem argACs_ok : ∀ {l l' : List AC} {mem d : List (Nat × Res)} {S : Nat → Prop} {ms ms' : List Nat} {us : List Value}, Wp F w S μ mem → reps w S μ l us → argACs ms mem l = some (l', ms', d) →
    ∃ S', (∀ b, S b → S' b) ∧ Wp F w S' μ (d ++ mem) ∧ (∃ t, ms' = ms ++ t) ∧ reps w S' (locμ μ ms') l' us
  | [], l', mem, d, S, ms, ms', us, hw, h, e => by
    simp only [argACs, Option.some.injEq, Prod.mk.injEq] at e
    obtain ⟨rfl, rfl, rfl⟩ := e
    exact ⟨S, fun _ h => h, hw, ⟨[], by simp⟩, h⟩
  | a :: l, l', mem, d, S, ms, ms', us, hw, ⟨u, r, e0, h, hl⟩, e => by
    simp only [argACs] at e
    split at e
    · cases e
    rename_i a' ms1 d1 h1
    split at e
    · cases e
    rename_i l1 ms2 d2 h2
    simp only [Option.some.injEq, Prod.mk.injEq] at e
    obtain ⟨rfl, rfl, rfl⟩ := e
    obtain ⟨S1, s1, w1, ⟨t1, rfl⟩, r1⟩ := argAC_ok hw h h1
    have k : Kp w w S S1 μ μ := ⟨s1, fun _ _ => rfl, fun _ _ h => h⟩
    obtain ⟨S2, s2, w2, ⟨t2, rfl⟩, r2⟩ := argACs_ok w1 (k.acs _ _ hl) h2
    rw [← List.append_assoc] at w2
    have k2 : Kp w w S1 S2 (locμ μ (ms ++ t1)) (locμ μ (ms ++ t1 ++ t2)) := ⟨s2, fun _ _ => rfl, locμ_ext _ t2⟩
    exact ⟨S2, fun b hb => s2 b (s1 b hb), w2, ⟨t1 ++ t2, by simp⟩, u, r, e0, k2.ac _ _ r1, r2⟩

theorem argAV_ok {mem : List (Nat × Res)} (hw : Wp F w S μ mem) {a a' : AV} {ms ms' : List Nat} {d : List (Nat × Res)} {u : Value} (h : repAV w S μ a u) (e : argAV ms mem a = some (a', ms', d)) :
    ∃ S', (∀ b, S b → S' b) ∧ Wp F w S' μ (d ++ mem) ∧ (∃ t, ms' = ms ++ t) ∧ repAV w S' (locμ μ ms') a' u := by
  cases a with
  | one a =>
    simp only [argAV] at e
    split at e
    · rename_i x ms1 d1 hx
      simp only [Option.some.injEq, Prod.mk.injEq] at e
      obtain ⟨rfl, rfl, rfl⟩ := e
      exact argAC_ok hw h hx
    · cases e
  | agg l =>
    simp only [argAV] at e
    split at e
    · rename_i x ms1 d1 hx
      simp only [Option.some.injEq, Prod.mk.injEq] at e
      obtain ⟨rfl, rfl, rfl⟩ := e
      obtain ⟨us, hu, hr⟩ := h
      obtain ⟨S', h1, h2, h3, h4⟩ := argACs_ok hw hr hx
      exact ⟨S', h1, h2, h3, us, hu, h4⟩
    · cases e
  | tup l => simp [argAV] at e
  | un => simp [argAV] at e
  | gd b v => simp [argAV] at e

theorem argAVs_ok : ∀ {l l' : List AV} {mem d : List (Nat × Res)} {S : Nat → Prop} {ms ms' : List Nat} {us : List Value}, Wp F w S μ mem → repAVs w S μ l us → argAVs ms mem l = some (l', ms', d) →
    ∃ S', (∀ b, S b → S' b) ∧ Wp F w S' μ (d ++ mem) ∧ (∃ t, ms' = ms ++ t) ∧ repAVs w S' (locμ μ ms') l' us
  | [], l', mem, d, S, ms, ms', us, hw, h, e => by
    simp only [argAVs, Option.some.injEq, Prod.mk.injEq] at e
    obtain ⟨rfl, rfl, rfl⟩ := e
    exact ⟨S, fun _ h => h, hw, ⟨[], by simp⟩, h⟩
  | a :: l, l', mem, d, S, ms, ms', us, hw, ⟨u, r, e0, h, hl⟩, e => by
    simp only [argAVs] at e
    split at e
    · cases e
    rename_i a' ms1 d1 h1
    split at e
    · cases e
    rename_i l1 ms2 d2 h2
    simp only [Option.some.injEq, Prod.mk.injEq] at e
    obtain ⟨rfl, rfl, rfl⟩ := e
    obtain ⟨S1, s1, w1, ⟨t1, rfl⟩, r1⟩ := argAV_ok hw h h1
    have k : Kp w w S S1 μ μ := ⟨s1, fun _ _ => rfl, fun _ _ h => h⟩
    have keepAll : ∀ {l : List AV} {r : List Value}, repAVs w S μ l r → repAVs w S1 μ l r := by
      intro l
      induction l with
      | nil => intro r h; exact h
      | cons x l ih => rintro r ⟨u, r', e, h, hl⟩; exact ⟨u, r', e, k.av _ _ h, ih hl⟩
    obtain ⟨S2, s2, w2, ⟨t2, rfl⟩, r2⟩ := argAVs_ok w1 (keepAll hl) h2
    rw [← List.append_assoc] at w2
    have k2 : Kp w w S1 S2 (locμ μ (ms ++ t1)) (locμ μ (ms ++ t1 ++ t2)) := ⟨s2, fun _ _ => rfl, locμ_ext _ t2⟩
    exact ⟨S2, fun b hb => s2 b (s1 b hb), w2, ⟨t1 ++ t2, by simp⟩, u, r, e0, k2.av _ _ r1, r2⟩
end
end Go.Eng

/- A program logic over abstract states, part K: a call. -/
namespace Go.Eng
open Go

def idxPtrs (ms : List Nat) : List (Nat × Nat) → Option (List (Nat × Nat))
  | [] => some []
  | (m, off) :: l => match idxOf ms m 0 with
    | some j => match idxPtrs ms l with
      | some r => some ((j, off) :: r)
      | none => none
    | none => none

/-- A cell of what is handed over, told for the callee. -/
def locCell (ms : List Nat) (mem : List (Nat × Res)) : AC → Option (AC × List (Nat × Res))
  | .c x => some (.c x, [])
  | .nil => some (.nil, [])
  | .own m => match idxOf ms m 0 with
    | some j => some (.own j, [])
    | none => match toCell mem (.own m) with
      | some (x, d) => some (.c x, d)
      | none => none
  | .clo g caps => match idxPtrs ms caps with
    | some r => some (.clo g r, [])
    | none => none
  | .map m => match idxOf ms m 0 with
    | some j => some (.map j, [])
    | none => none
  | .ptr m off => match idxOf ms m 0 with
    | some j => some (.ptr j off, [])
    | none => none
  | .pst sz get => some (.pst sz get, [])
  | .pow _ _ _ _ => none
  | .mel _ _ _ => none
  | .pel _ _ _ _ _ => none
  | .it _ => none
  | .any => some (.any, [])

def locCells (ms : List Nat) (mem : List (Nat × Res)) : List AC → Option (List AC × List (Nat × Res))
  | [] => some ([], [])
  | a :: l => match locCell ms mem a with
    | none => none
    | some (a', d) => match locCells ms (d ++ mem) l with
      | none => none
      | some (l', d') => some (a' :: l', d' ++ d)

def locRes (ms : List Nat) (mem : List (Nat × Res)) : Res → Option (Res × List (Nat × Res))
  | .box ty cells => match locCells ms mem cells with
    | some (cells', d) => some (.box ty cells', d)
    | none => none
  | .mapI n q a => some (.mapI n q a, [])
  | .mapR n g none a => match idxOf ms g 0 with
    | some j => some (.mapR n j none a, [])
    | none => none
  | .mapR _ _ (some _) _ => none
  | .grp e sz f => some (.grp e sz f, [])
  | .rowR e g n none => match idxOf ms g 0 with
    | some j => some (.rowR e j n none, [])
    | none => none
  | .rowR _ _ _ (some _) => none
  | .row e sz n get => some (.row e sz n get, [])
  | .frz _ _ _ => none
  | .dead => none
  | .iter _ _ _ _ => none

def locBoxes (ms : List Nat) : List Nat → List (Nat × Res) → Option (List Res × List (Nat × Res))
  | [], _ => some ([], [])
  | m :: l, mem => match look mem m with
    | none => none
    | some r => match locRes ms mem r with
      | none => none
      | some (r', d) => match locBoxes ms l (d ++ mem) with
        | none => none
        | some (bs, d') => some (r' :: bs, d' ++ d)

/-- May it be handed over? -/
def isCont : Res → Bool
  | .box _ _ => true
  | .mapI _ _ _ => true
  | .mapR _ _ _ _ => true
  | .grp _ _ _ => true
  | .rowR _ _ _ _ => true
  | .row _ _ _ _ => true
  | .frz _ _ _ => false
  | .dead => false
  | .iter _ _ _ _ => false

theorem isCont_live {r : Res} (h : isCont r = true) : r.live = true := by cases r <;> first | rfl | cases h

theorem idxOf_none : ∀ {l : List Nat} {m k : Nat}, idxOf l m k = none → m ∉ l
  | [], m, k, _ => by simp
  | x :: l, m, k, h => by
    simp only [idxOf] at h
    split at h
    · cases h
    · rename_i hb
      have := idxOf_none h
      have hne := Nat.ne_of_beq_eq_false hb
      simp only [List.mem_cons, not_or]
      exact ⟨fun e => hne e.symm, this⟩

/-- What settles on the way is a row that is not handed over. -/
theorem toCell_own {mem d : List (Nat × Res)} {x : Cell} {m' m : Nat} {r : Res} (h : toCell mem (.own m') = some (x, d)) (hm : look mem m = some r) (hr : m' ≠ m) : look (d ++ mem) m = some r := by
  simp only [toCell] at h
  split at h
  · rename_i e sz n get hl
    simp only [Option.some.injEq, Prod.mk.injEq] at h
    obtain ⟨rfl, rfl⟩ := h
    rw [List.cons_append, List.nil_append, look_cons, if_neg hr]
    exact hm
  · simp only [Option.some.injEq, Prod.mk.injEq] at h
    obtain ⟨rfl, rfl⟩ := h
    exact hm
  · cases h

theorem locCell_look {ms : List Nat} {mem d : List (Nat × Res)} {a a' : AC} {m : Nat} {r : Res} (h : locCell ms mem a = some (a', d)) (hm : look mem m = some r) (hr : m ∈ ms) : look (d ++ mem) m = some r := by
  cases a with
  | own m' =>
    simp only [locCell] at h
    split at h
    · simp only [Option.some.injEq, Prod.mk.injEq] at h
      obtain ⟨_, rfl⟩ := h
      exact hm
    rename_i hno
    split at h
    · rename_i x d' hx
      simp only [Option.some.injEq, Prod.mk.injEq] at h
      obtain ⟨rfl, rfl⟩ := h
      exact toCell_own hx hm (by rintro rfl; exact idxOf_none hno hr)
    · cases h
  | clo g caps =>
    simp only [locCell] at h
    split at h
    · simp only [Option.some.injEq, Prod.mk.injEq] at h
      obtain ⟨_, rfl⟩ := h
      exact hm
    · cases h
  | map m' =>
    simp only [locCell] at h
    split at h
    · simp only [Option.some.injEq, Prod.mk.injEq] at h
      obtain ⟨_, rfl⟩ := h
      exact hm
    · cases h
  | ptr m' off =>
    simp only [locCell] at h
    split at h
    · simp only [Option.some.injEq, Prod.mk.injEq] at h
      obtain ⟨_, rfl⟩ := h
      exact hm
    · cases h
  | c x =>
    simp only [locCell, Option.some.injEq, Prod.mk.injEq] at h
    obtain ⟨_, rfl⟩ := h
    exact hm
  | nil =>
    simp only [locCell, Option.some.injEq, Prod.mk.injEq] at h
    obtain ⟨_, rfl⟩ := h
    exact hm
  | pst sz get =>
    simp only [locCell, Option.some.injEq, Prod.mk.injEq] at h
    obtain ⟨_, rfl⟩ := h
    exact hm
  | pow m sz i j => simp [locCell] at h
  | mel m g k => simp [locCell] at h
  | pel g k sz i j => simp [locCell] at h
  | it m => simp [locCell] at h
  | any =>
    simp only [locCell, Option.some.injEq, Prod.mk.injEq] at h
    obtain ⟨_, rfl⟩ := h
    exact hm

theorem locCells_look : ∀ {l l' : List AC} {ms : List Nat} {mem d : List (Nat × Res)} {m : Nat} {r : Res}, locCells ms mem l = some (l', d) → look mem m = some r → m ∈ ms → look (d ++ mem) m = some r
  | [], l', ms, mem, d, m, r, h, hm, _ => by
    simp only [locCells, Option.some.injEq, Prod.mk.injEq] at h
    obtain ⟨_, rfl⟩ := h
    exact hm
  | a :: l, l', ms, mem, d, m, r, h, hm, hr => by
    simp only [locCells] at h
    split at h
    · cases h
    rename_i a' d1 h1
    split at h
    · cases h
    rename_i l1 d2 h2
    simp only [Option.some.injEq, Prod.mk.injEq] at h
    obtain ⟨_, rfl⟩ := h
    rw [List.append_assoc]
    exact locCells_look h2 (locCell_look h1 hm hr) hr

theorem locRes_look {ms : List Nat} {mem d : List (Nat × Res)} {r0 r0' : Res} {m : Nat} {r : Res} (h : locRes ms mem r0 = some (r0', d)) (hm : look mem m = some r) (hr : m ∈ ms) : look (d ++ mem) m = some r := by
  cases r0 with
  | box ty cells =>
    simp only [locRes] at h
    split at h
    · rename_i cells' d' h1
      simp only [Option.some.injEq, Prod.mk.injEq] at h
      obtain ⟨_, rfl⟩ := h
      exact locCells_look h1 hm hr
    · cases h
  | mapI n q a =>
    simp only [locRes, Option.some.injEq, Prod.mk.injEq] at h
    obtain ⟨_, rfl⟩ := h
    exact hm
  | mapR n g hole a =>
    cases hole with
    | some _ => simp [locRes] at h
    | none =>
    simp only [locRes] at h
    split at h
    · simp only [Option.some.injEq, Prod.mk.injEq] at h
      obtain ⟨_, rfl⟩ := h
      exact hm
    · cases h
  | grp e sz f =>
    simp only [locRes, Option.some.injEq, Prod.mk.injEq] at h
    obtain ⟨_, rfl⟩ := h
    exact hm
  | rowR e g n hole =>
    cases hole with
    | some _ => simp [locRes] at h
    | none =>
    simp only [locRes] at h
    split at h
    · simp only [Option.some.injEq, Prod.mk.injEq] at h
      obtain ⟨_, rfl⟩ := h
      exact hm
    · cases h
  | row e sz n get =>
    simp only [locRes, Option.some.injEq, Prod.mk.injEq] at h
    obtain ⟨_, rfl⟩ := h
    exact hm
  | frz n sz get => simp [locRes] at h
  | dead => simp [locRes] at h
  | iter m since seen last => simp [locRes] at h

theorem locRes_cont {ms : List Nat} {mem d : List (Nat × Res)} {r r' : Res} (h : locRes ms mem r = some (r', d)) : isCont r = true ∧ isCont r' = true := by
  cases r with
  | box ty cells =>
    simp only [locRes] at h
    split at h
    · simp only [Option.some.injEq, Prod.mk.injEq] at h
      obtain ⟨rfl, _⟩ := h
      exact ⟨rfl, rfl⟩
    · cases h
  | mapI n q a =>
    simp only [locRes, Option.some.injEq, Prod.mk.injEq] at h
    obtain ⟨rfl, _⟩ := h
    exact ⟨rfl, rfl⟩
  | mapR n g hole a =>
    cases hole with
    | some _ => simp [locRes] at h
    | none =>
    simp only [locRes] at h
    split at h
    · simp only [Option.some.injEq, Prod.mk.injEq] at h
      obtain ⟨rfl, _⟩ := h
      exact ⟨rfl, rfl⟩
    · cases h
  | grp e sz f =>
    simp only [locRes, Option.some.injEq, Prod.mk.injEq] at h
    obtain ⟨rfl, _⟩ := h
    exact ⟨rfl, rfl⟩
  | rowR e g n hole =>
    cases hole with
    | some _ => simp [locRes] at h
    | none =>
    simp only [locRes] at h
    split at h
    · simp only [Option.some.injEq, Prod.mk.injEq] at h
      obtain ⟨rfl, _⟩ := h
      exact ⟨rfl, rfl⟩
    · cases h
  | row e sz n get =>
    simp only [locRes, Option.some.injEq, Prod.mk.injEq] at h
    obtain ⟨rfl, _⟩ := h
    exact ⟨rfl, rfl⟩
  | frz n sz get => simp [locRes] at h
  | dead => simp [locRes] at h
  | iter m since seen last => simp [locRes] at h

theorem locBoxes_look : ∀ {l ms : List Nat} {mem d : List (Nat × Res)} {bs : List Res} {m : Nat} {r : Res}, locBoxes ms l mem = some (bs, d) → look mem m = some r → m ∈ ms → look (d ++ mem) m = some r
  | [], ms, mem, d, bs, m, r, h, hm, _ => by
    simp only [locBoxes, Option.some.injEq, Prod.mk.injEq] at h
    obtain ⟨_, rfl⟩ := h
    exact hm
  | m' :: l, ms, mem, d, bs, m, r, h, hm, hr => by
    simp only [locBoxes] at h
    split at h
    · cases h
    rename_i r1 h0
    split at h
    · cases h
    rename_i r1' d1 h1
    split at h
    · cases h
    rename_i bs' d2 h2
    simp only [Option.some.injEq, Prod.mk.injEq] at h
    obtain ⟨_, rfl⟩ := h
    rw [List.append_assoc]
    exact locBoxes_look h2 (locRes_look h1 hm hr) hr

section
variable {w : World} {μ : Mu} {F : Fr}

theorem idxPtrs_ok {ms : List Nat} : ∀ {l r : List (Nat × Nat)} {us : List Value}, repPtrs μ l us → idxPtrs ms l = some r → repPtrs (locμ μ ms) r us
  | [], r, us, h, e => by
    simp only [idxPtrs, Option.some.injEq] at e
    subst e
    exact h
  | (m, off) :: l, r, us, ⟨b, us', h1, h2, h3⟩, e => by
    simp only [idxPtrs] at e
    split at e
    · rename_i j hj
      split at e
      · rename_i r' hr
        injection e with e
        subst e
        refine ⟨b, us', h1, ?_, idxPtrs_ok h3 hr⟩
        rw [locμ_get (by simpa using (idxOf_ok hj).2)]
        exact h2
      · cases e
    · cases e

theorem locCell_ok {mem d : List (Nat × Res)} {S : Nat → Prop} {ms : List Nat} {a a' : AC} {u : Value} (hw : Wp F w S μ mem) (h : repAC w S μ a u) (e : locCell ms mem a = some (a', d)) :
    ∃ S', (∀ b, S b → S' b) ∧ Wp F w S' μ (d ++ mem) ∧ repAC w S' (locμ μ ms) a' u := by
  cases a with
  | c x =>
    simp only [locCell, Option.some.injEq, Prod.mk.injEq] at e
    obtain ⟨rfl, rfl⟩ := e
    exact ⟨S, fun _ h => h, hw, h⟩
  | nil =>
    simp only [locCell, Option.some.injEq, Prod.mk.injEq] at e
    obtain ⟨rfl, rfl⟩ := e
    exact ⟨S, fun _ h => h, hw, h⟩
  | pst sz get =>
    simp only [locCell, Option.some.injEq, Prod.mk.injEq] at e
    obtain ⟨rfl, rfl⟩ := e
    exact ⟨S, fun _ h => h, hw, h⟩
  | own m =>
    simp only [locCell] at e
    split at e
    · rename_i j hj
      simp only [Option.some.injEq, Prod.mk.injEq] at e
      obtain ⟨rfl, rfl⟩ := e
      exact ⟨S, fun _ h => h, hw, by rw [locμ_get (by simpa using (idxOf_ok hj).2)]; exact h.1, h.2⟩
    split at e
    · rename_i x d' hx
      simp only [Option.some.injEq, Prod.mk.injEq] at e
      obtain ⟨rfl, rfl⟩ := e
      exact rep_toCell hw h hx
    · cases e
  | clo g caps =>
    simp only [locCell] at e
    split at e
    · rename_i r hr
      simp only [Option.some.injEq, Prod.mk.injEq] at e
      obtain ⟨rfl, rfl⟩ := e
      obtain ⟨us, h1, h2⟩ := h
      exact ⟨S, fun _ h => h, hw, us, h1, idxPtrs_ok h2 hr⟩
    · cases e
  | map m =>
    simp only [locCell] at e
    split at e
    · rename_i j hj
      simp only [Option.some.injEq, Prod.mk.injEq] at e
      obtain ⟨rfl, rfl⟩ := e
      exact ⟨S, fun _ h => h, hw, by rw [locμ_get (by simpa using (idxOf_ok hj).2)]; exact h.1, h.2⟩
    · cases e
  | ptr m off =>
    simp only [locCell] at e
    split at e
    · rename_i j hj
      simp only [Option.some.injEq, Prod.mk.injEq] at e
      obtain ⟨rfl, rfl⟩ := e
      obtain ⟨b, h1, h2⟩ := h
      exact ⟨S, fun _ h => h, hw, b, by rw [locμ_get (by simpa using (idxOf_ok hj).2)]; exact h1, h2⟩
    · cases e
  | pow m sz i j => simp [locCell] at e
  | mel m g k => simp [locCell] at e
  | pel g k sz i j => simp [locCell] at e
  | it m => simp [locCell] at e
  | any =>
    simp only [locCell, Option.some.injEq, Prod.mk.injEq] at e
    obtain ⟨rfl, rfl⟩ := e
    exact ⟨S, fun _ h => h, hw, h⟩

theorem locCells_ok : ∀ {l l' : List AC} {ms : List Nat} {mem d : List (Nat × Res)} {S : Nat → Prop} {us : List Value}, Wp F w S μ mem → reps w S μ l us → locCells ms mem l = some (l', d) →
    ∃ S', (∀ b, S b → S' b) ∧ Wp F w S' μ (d ++ mem) ∧ reps w S' (locμ μ ms) l' us
  | [], l', ms, mem, d, S, us, hw, h, e => by
    simp only [locCells, Option.some.injEq, Prod.mk.injEq] at e
    obtain ⟨rfl, rfl⟩ := e
    exact ⟨S, fun _ h => h, hw, h⟩
  | a :: l, l', ms, mem, d, S, us, hw, ⟨u, r, e0, h, hl⟩, e => by
    simp only [locCells] at e
    split at e
    · cases e
    rename_i a' d1 h1
    split at e
    · cases e
    rename_i l1 d2 h2
    simp only [Option.some.injEq, Prod.mk.injEq] at e
    obtain ⟨rfl, rfl⟩ := e
    obtain ⟨S1, s1, w1, r1⟩ := locCell_ok hw h h1
    have k : Kp w w S S1 μ μ := ⟨s1, fun _ _ => rfl, fun _ _ h => h⟩
    obtain ⟨S2, s2, w2, r2⟩ := locCells_ok w1 (k.acs _ _ hl) h2
    rw [← List.append_assoc] at w2
    have k2 : Kp w w S1 S2 (locμ μ ms) (locμ μ ms) := ⟨s2, fun _ _ => rfl, fun _ _ h => h⟩
    exact ⟨S2, fun b hb => s2 b (s1 b hb), w2, u, r, e0, k2.ac _ _ r1, r2⟩

theorem locRes_ok {mem d : List (Nat × Res)} {S : Nat → Prop} {ms : List Nat} {m j : Nat} {r r' : Res} (hw : Wp F w S μ mem) (hm : look mem m = some r) (hj : ms[j]? = some m) (e : locRes ms mem r = some (r', d)) :
    ∃ S', (∀ b, S b → S' b) ∧ Wp F w S' μ (d ++ mem) ∧ repRes w S' (locμ μ ms) j r' := by
  have h := hw.res m r hm
  cases r with
  | box ty cells =>
    simp only [locRes] at e
    split at e
    · rename_i cells' d' h1
      simp only [Option.some.injEq, Prod.mk.injEq] at e
      obtain ⟨rfl, rfl⟩ := e
      obtain ⟨b, us, g1, g2, g3⟩ := h
      obtain ⟨S', s1, w1, r1⟩ := locCells_ok hw g3 h1
      exact ⟨S', s1, w1, b, us, by rw [locμ_get hj]; exact g1, g2, r1⟩
    · cases e
  | mapI n q a =>
    simp only [locRes, Option.some.injEq, Prod.mk.injEq] at e
    obtain ⟨rfl, rfl⟩ := e
    obtain ⟨r, g1, g2⟩ := h
    exact ⟨S, fun _ h => h, hw, r, by rw [locμ_get hj]; exact g1, g2⟩
  | mapR n g hole a =>
    cases hole with
    | some _ => simp [locRes] at e
    | none =>
    simp only [locRes] at e
    split at e
    · rename_i j' hj'
      simp only [Option.some.injEq, Prod.mk.injEq] at e
      obtain ⟨rfl, rfl⟩ := e
      obtain ⟨r, l, xs, g1, g2, g3⟩ := h
      exact ⟨S, fun _ h => h, hw, r, l, xs, by rw [locμ_get hj]; exact g1, by rw [locμ_get (by simpa using (idxOf_ok hj').2)]; exact g2, g3⟩
    · cases e
  | grp e0 sz f =>
    simp only [locRes, Option.some.injEq, Prod.mk.injEq] at e
    obtain ⟨rfl, rfl⟩ := e
    obtain ⟨l, hn, g1, g2⟩ := h
    exact ⟨S, fun _ h => h, hw, l, hn, by rw [locμ_get hj]; exact g1, g2⟩
  | rowR e0 g n hole =>
    cases hole with
    | some _ => simp [locRes] at e
    | none =>
    simp only [locRes] at e
    split at e
    · rename_i j' hj'
      simp only [Option.some.injEq, Prod.mk.injEq] at e
      obtain ⟨rfl, rfl⟩ := e
      obtain ⟨v, l, xs, g1, g2, g3⟩ := h
      exact ⟨S, fun _ h => h, hw, v, l, xs, by rw [locμ_get hj]; exact g1, by rw [locμ_get (by simpa using (idxOf_ok hj').2)]; exact g2, g3⟩
    · cases e
  | row e0 sz n get =>
    simp only [locRes, Option.some.injEq, Prod.mk.injEq] at e
    obtain ⟨rfl, rfl⟩ := e
    obtain ⟨v, xs, g1, g2⟩ := h
    exact ⟨S, fun _ h => h, hw, v, xs, by rw [locμ_get hj]; exact g1, g2⟩
  | frz n sz get => simp [locRes] at e
  | dead => simp [locRes] at e
  | iter m since seen last => simp [locRes] at e

theorem locBoxes_ok : ∀ {l : List Nat} {ms : List Nat} {k : Nat} {mem d : List (Nat × Res)} {S : Nat → Prop} {bs : List Res}, Wp F w S μ mem → locBoxes ms l mem = some (bs, d) → ms.drop k = l →
    ∃ S', (∀ b, S b → S' b) ∧ Wp F w S' μ (d ++ mem) ∧ bs.length = l.length ∧
      ∀ (j m : Nat), l[j]? = some m → ∃ r r', look (d ++ mem) m = some r ∧ isCont r = true ∧ bs[j]? = some r' ∧ isCont r' = true ∧ repRes w S' (locμ μ ms) (k + j) r'
  | [], ms, k, mem, d, S, bs, hw, h, _ => by
    simp only [locBoxes, Option.some.injEq, Prod.mk.injEq] at h
    obtain ⟨rfl, rfl⟩ := h
    exact ⟨S, fun _ h => h, hw, rfl, fun j m hj => by simp at hj⟩
  | m' :: l, ms, k, mem, d, S, bs, hw, h, hd => by
    simp only [locBoxes] at h
    split at h
    · cases h
    rename_i r1 h0
    split at h
    · cases h
    rename_i r1' d1 h1
    split at h
    · cases h
    rename_i bs' d2 h2
    simp only [Option.some.injEq, Prod.mk.injEq] at h
    obtain ⟨rfl, rfl⟩ := h
    have hk : ms[k]? = some m' := by
      have := congrArg (fun l => l[0]?) hd
      simpa [List.getElem?_drop] using this
    have hd' : ms.drop (k + 1) = l := by
      have := congrArg List.tail hd
      simpa using this
    obtain ⟨S1, s1, w1, g1⟩ := locRes_ok hw h0 hk h1
    obtain ⟨S2, s2, w2, l2, g2⟩ := locBoxes_ok (k := k + 1) w1 h2 hd'
    obtain ⟨c1, c2⟩ := locRes_cont h1
    have kk : Kp w w S1 S2 (locμ μ ms) (locμ μ ms) := ⟨s2, fun _ _ => rfl, fun _ _ h => h⟩
    refine ⟨S2, fun b hb => s2 b (s1 b hb), by rw [List.append_assoc]; exact w2, by simp [l2], fun j m hj => ?_⟩
    cases j with
    | zero =>
      simp at hj
      subst hj
      exact ⟨r1, r1', by rw [List.append_assoc]; exact locBoxes_look h2 (locRes_look h1 h0 (List.mem_of_getElem? hk)) (List.mem_of_getElem? hk), c1, rfl, c2, repRes_move kk g1 (fun _ _ _ _ _ => rfl)⟩
    | succ j =>
      obtain ⟨r, r', a1, a2, a3, a4, a5⟩ := g2 j m (by simpa using hj)
      exact ⟨r, r', by rw [List.append_assoc]; exact a1, a2, by simpa using a3, a4, by rw [show k + (j + 1) = k + 1 + j from by omega]; exact a5⟩

theorem look_idx : ∀ {bs : List Res} {k j : Nat} {r : Res}, look (idxMem k bs) j = some r → k ≤ j ∧ bs[j - k]? = some r
  | [], k, j, r, h => by simp [idxMem, look] at h
  | x :: l, k, j, r, h => by
    simp only [idxMem] at h
    rw [look_cons] at h
    split at h
    · rename_i e
      injection h with h
      subst e h
      simp
    · obtain ⟨h1, h2⟩ := look_idx h
      refine ⟨by omega, ?_⟩
      rw [show j - k = (j - (k + 1)) + 1 from by omega]
      simpa using h2

/-- The callee's view of what it is handed. -/
theorem Wp.loc {mem : List (Nat × Res)} {S : Nat → Prop} (h : Wp F w S μ mem) {ms : List Nat} {bs : List Res} (hnd : ms.Nodup) (hlen : bs.length = ms.length)
    (hb : ∀ (j m : Nat), ms[j]? = some m → ∃ r r', look mem m = some r ∧ isCont r = true ∧ bs[j]? = some r' ∧ isCont r' = true ∧ repRes w S (locμ μ ms) j r') :
    Wp (frOf w S (locμ μ ms) bs.length) w S (locμ μ ms) (idxMem 0 bs) := by
  have get : ∀ j r, look (idxMem 0 bs) j = some r → ∃ m, ms[j]? = some m ∧ bs[j]? = some r := by
    intro j r hl
    obtain ⟨_, h2⟩ := look_idx hl
    simp only [Nat.sub_zero] at h2
    have hj : j < ms.length := by rw [← hlen]; exact (List.getElem?_eq_some_iff.1 h2).1
    exact ⟨ms[j], by simp [hj], h2⟩
  have own : ∀ j b, Owns (locμ μ ms) (idxMem 0 bs) j b → ∃ m, ms[j]? = some m ∧ Owns μ mem m b := by
    rintro j b ⟨r, v, hl, hr, hv, hbk⟩
    obtain ⟨m, hm, hbs⟩ := get j r hl
    obtain ⟨r0, r', h1, h2, h3, h4, h5⟩ := hb j m hm
    rw [locμ_get hm] at hv
    exact ⟨m, hm, _, v, h1, isCont_live h2, hv, hbk⟩
  refine ⟨⟨rfl, rfl, rfl, Nat.le_refl _, fun _ _ _ => rfl⟩, h.Sb, fun b hb => .inl hb, fun b hb => hb, fun j r hl => ?_, fun j b hO => ?_, fun j j' b hO hO' => ?_⟩
  · obtain ⟨m, hm, hbs⟩ := get j r hl
    obtain ⟨r0, r', h1, h2, h3, h4, h5⟩ := hb j m hm
    rw [hbs] at h3
    injection h3 with h3
    subst h3
    exact h5
  · obtain ⟨m, hm, hO'⟩ := own j b hO
    obtain ⟨r, v, _, _, hv, hbk⟩ := hO
    exact ⟨(h.sep m b hO').1, .inr ⟨j, v, hv, hbk⟩⟩
  · obtain ⟨m, hm, h1⟩ := own j b hO
    obtain ⟨m', hm', h2⟩ := own j' b hO'
    have := h.dis m m' b h1 h2
    subst this
    obtain ⟨l1, e1⟩ := List.getElem?_eq_some_iff.1 hm
    obtain ⟨l2, e2⟩ := List.getElem?_eq_some_iff.1 hm'
    exact (List.getElem_inj hnd).1 (e1.trans e2.symm)

def nameOf (ms : List Nat) (nb : Nat) (j : Nat) : Nat :=
  match nth ms j with
  | some m => m
  | none => nb + (j - ms.length)

def keysLt (B : Nat) : List (Nat × Res) → Bool
  | [] => true
  | (k, _) :: l => match Nat.blt k B with
    | true => keysLt B l
    | false => false

def allLive (M : List (Nat × Res)) : Nat → Bool
  | 0 => true
  | k + 1 => match look M k with
    | some _ => allLive M k
    | none => false

def nodupB : List Nat → Bool
  | [] => true
  | x :: l => match idxOf l x 0 with
    | some _ => false
    | none => nodupB l

theorem keysLt_ok {B : Nat} : ∀ {M : List (Nat × Res)}, keysLt B M = true → ∀ j r, (j, r) ∈ M → j < B
  | [], _, j, r, h => by simp at h
  | (k, _) :: l, hk, j, r, h => by
    simp only [keysLt] at hk
    split at hk
    · rename_i hb
      rcases List.mem_cons.1 h with e | h
      · injection e with e1 e2
        subst e1
        rw [Nat.blt_eq] at hb; exact hb
      · exact keysLt_ok hk j r h
    · cases hk

theorem allLive_ok {M : List (Nat × Res)} : ∀ {k : Nat}, allLive M k = true → ∀ j, j < k → ∃ r, look M j = some r
  | 0, _, j, hj => by omega
  | k + 1, h, j, hj => by
    simp only [allLive] at h
    split at h
    · rename_i r hl
      rcases Nat.lt_or_ge j k with h1 | h1
      · exact allLive_ok h j h1
      · obtain rfl : j = k := by omega
        exact ⟨_, hl⟩
    · cases h

theorem nodupB_ok : ∀ {l : List Nat}, nodupB l = true → l.Nodup
  | [], _ => List.nodup_nil
  | x :: l, h => by
    simp only [nodupB] at h
    split at h
    · cases h
    · rename_i hn
      exact List.nodup_cons.2 ⟨idxOf_none hn, nodupB_ok h⟩

/-- Behind the call: the callee's memory goes into the caller's. -/
theorem Wp.called {mem : List (Nat × Res)} {S : Nat → Prop} (h : Wp F w S μ mem) {ms : List Nat} {nb : Nat} (hnd : ms.Nodup) (hms : ∀ (j m : Nat), ms[j]? = some m → ∃ (r : Res) (v : Value), look mem m = some r ∧ r.live = true ∧ μ m = some v)
    (hnb : ∀ m, nb ≤ m → m < nb + 16 → μ m = none) {w' : World} {S' : Nat → Prop} {μl : Mu} {M : List (Nat × Res)} (k : Kp w w' S S' (locμ μ ms) μl) {kk : Nat} (hl : Wp (frOf w S (locμ μ ms) kk) w' S' μl M)
    (hM : ∀ j r, (j, r) ∈ M → j < ms.length + 16) (hlive : ∀ j, j < ms.length → ∃ r, look M j = some r) (hμl : ∀ m, ms.length + 16 ≤ m → μl m = none) :
    ∃ μ', (∀ j v, μl j = some v → μ' (nameOf ms nb j) = some v) ∧ Kp w w' S S' μ μ' ∧ Wp F w' S' μ' (renMem (nameOf ms nb) M ++ mem) ∧ ∀ m, ¬ (nb ≤ m ∧ m < nb + 16) → μ' m = μ m := by
  let μ' : Mu := fun m => if nb ≤ m ∧ m < nb + 16 then μl (ms.length + (m - nb)) else μ m
  have name_lt : ∀ (j m : Nat), ms[j]? = some m → nameOf ms nb j = m := by
    intro j m hj
    simp [nameOf, nth_eq, hj]
  have name_ge : ∀ (j : Nat), ms.length ≤ j → nameOf ms nb j = nb + (j - ms.length) := by
    intro j hj
    simp [nameOf, nth_eq, List.getElem?_eq_none hj]
  have ms_old : ∀ (j m : Nat), ms[j]? = some m → ¬ (nb ≤ m ∧ m < nb + 16) := by
    intro j m hj hf
    obtain ⟨_, b, _, _, hm⟩ := hms j m hj
    rw [hnb m hf.1 hf.2] at hm
    cases hm
  have hf : ∀ j v, μl j = some v → μ' (nameOf ms nb j) = some v := by
    intro j v hv
    rcases Nat.lt_or_ge j ms.length with hj | hj
    · have hm : ms[j]? = some ms[j] := List.getElem?_eq_getElem hj
      rw [name_lt j _ hm]
      show (if _ then _ else _) = _
      rw [if_neg (ms_old j _ hm)]
      obtain ⟨_, b, _, _, hmb⟩ := hms j _ hm
      have h1 := k.mu j _ (by rw [locμ_get hm]; exact hmb)
      rw [h1] at hv
      injection hv with hv
      rw [hmb, hv]
    · rw [name_ge j hj]
      have hj16 : j < ms.length + 16 := by
        rcases Nat.lt_or_ge j (ms.length + 16) with h1 | h1
        · exact h1
        · rw [hμl j h1] at hv; cases hv
      show (if _ then _ else _) = _
      rw [if_pos ⟨by omega, by omega⟩, show ms.length + (nb + (j - ms.length) - nb) = j from by omega]
      exact hv
  have kp : Kp w w' S S' μ μ' := ⟨k.sub, k.wd, fun m v hv => by
    show (if _ then _ else _) = _
    rw [if_neg]
    · exact hv
    · intro hfr
      rw [hnb m hfr.1 hfr.2] at hv
      cases hv⟩
  have inj : ∀ j j', j < ms.length + 16 → j' < ms.length + 16 → nameOf ms nb j = nameOf ms nb j' → j = j' := by
    intro j j' hj hj' e
    rcases Nat.lt_or_ge j ms.length with h1 | h1
    · have hm : ms[j]? = some ms[j] := List.getElem?_eq_getElem h1
      rcases Nat.lt_or_ge j' ms.length with h2 | h2
      · have hm' : ms[j']? = some ms[j'] := List.getElem?_eq_getElem h2
        rw [name_lt j _ hm, name_lt j' _ hm'] at e
        exact (List.getElem_inj hnd).1 e
      · rw [name_lt j _ hm, name_ge j' h2] at e
        exact absurd ⟨by omega, by omega⟩ (ms_old j _ hm)
    · rcases Nat.lt_or_ge j' ms.length with h2 | h2
      · have hm' : ms[j']? = some ms[j'] := List.getElem?_eq_getElem h2
        rw [name_lt j' _ hm', name_ge j h1] at e
        exact absurd ⟨by omega, by omega⟩ (ms_old j' _ hm')
      · rw [name_ge j h1, name_ge j' h2] at e
        omega
  have st_own : ∀ b, (frOf w S (locμ μ ms) kk).st b → ∃ (j m : Nat), ms[j]? = some m ∧ Owns μ mem m b := by
    rintro b ⟨j, v, hv, hb⟩
    unfold locμ at hv
    split at hv
    · rename_i m hm
      obtain ⟨r, b', hlm, hlr, _⟩ := hms j m hm
      exact ⟨j, m, hm, _, v, hlm, hlr, hv, hb⟩
    · cases hv
  have own_back : ∀ m b r, look (renMem (nameOf ms nb) M) m = some r → Owns μ' (renMem (nameOf ms nb) M ++ mem) m b → ∃ j, nameOf ms nb j = m ∧ Owns μl M j b := by
    rintro m b r hlr ⟨r', v, hl', hr, hv, hb⟩
    rw [look_append, hlr] at hl'
    injection hl' with hl'
    subst hl'
    obtain ⟨j, r0, h1, h2, h3⟩ := look_ren inj hM hlr
    refine ⟨j, h2, r0, v, h1, by rw [h3, ren_live] at hr; exact hr, ?_, hb⟩
    have hr0 : r0.live = true := by rw [h3, ren_live] at hr; exact hr
    obtain ⟨v', hv'⟩ := hl.mu_some h1 hr0
    have := hf j v' hv'
    rw [h2, hv] at this
    injection this with this
    rw [hv', this]
  refine ⟨μ', hf, kp, ?_, fun m hm => if_neg hm⟩
  refine Wp.upd (frOf w S (locμ μ ms) kk).st (fun m => ∃ r, look (renMem (nameOf ms nb) M) m = some r) h kp hl.grow.os hl.grow.tape hl.grow.output hl.grow.size (fun b hb hc => hl.grow.block b hb hc) ?_ hl.Sb ?_ ?_ ?_ ?_ ?_ ?_ ?_
  · intro b hb
    obtain ⟨j, m, _, hO⟩ := st_own b hb
    exact (h.sep m b hO).2
  · intro b hb
    rcases hl.Sn b hb with h1 | h1 | h1
    · exact .inl h1
    · exact .inr (.inl (Nat.le_trans h.grow.size h1))
    · obtain ⟨j, m, _, hO⟩ := st_own b h1
      exact .inr (h.sep m b hO).2
  · intro m hm
    rw [look_append]
    cases hlm : look (renMem (nameOf ms nb) M) m with
    | none => rfl
    | some r => exact absurd ⟨r, hlm⟩ hm
  · intro m b hm hO
    have hst : ¬ (frOf w S (locμ μ ms) kk).st b := by
      intro hs
      obtain ⟨j, m', hj, hO'⟩ := st_own b hs
      have := h.dis _ _ _ hO hO'
      subst this
      obtain ⟨r0, hlj⟩ := hlive j (List.getElem?_eq_some_iff.1 hj).1
      cases hlm : look (renMem (nameOf ms nb) M) m with
      | none => exact look_ren_none hM hlm j _ hlj (name_lt j m hj)
      | some r => exact hm ⟨r, hlm⟩
    refine ⟨hst, fun hs => ?_⟩
    rcases hl.Sn b hs with h1 | h1 | h1
    · exact (h.sep m b hO).1 h1
    · exact absurd (h.owns_lt hO) (by have : w.heap.size ≤ b := h1; omega)
    · exact hst h1
  · rintro m r ⟨r1, hr1⟩ hlm
    rw [look_append, hr1] at hlm
    injection hlm with hlm
    subst hlm
    obtain ⟨j, r0, h1, h2, h3⟩ := look_ren inj hM hr1
    have := ren_res (f := nameOf ms nb) hf (hl.res j r0 h1)
    rw [h2, ← h3] at this
    exact this
  · rintro m b ⟨r, hr⟩ hO
    obtain ⟨j, _, hO'⟩ := own_back m b r hr hO
    obtain ⟨h1, h2⟩ := hl.sep j b hO'
    refine ⟨h1, ?_⟩
    rcases h2 with h2 | h2
    · exact .inl (Nat.le_trans h.grow.size h2)
    · obtain ⟨_, m', _, hO''⟩ := st_own b h2
      exact (h.sep m' b hO'').2
  · rintro m m' b ⟨r, hr⟩ ⟨r', hr'⟩ hO hO'
    obtain ⟨j, e, h1⟩ := own_back m b r hr hO
    obtain ⟨j', e', h2⟩ := own_back m' b r' hr' hO'
    rw [← e, ← e', hl.dis j j' b h1 h2]
  · rintro m m' b ⟨r, hr⟩ hne hO hO'
    obtain ⟨j, e, h1⟩ := own_back m b r hr hO
    rcases (hl.sep j b h1).2 with h2 | h2
    · exact absurd (h.owns_lt hO') (by have : w.heap.size ≤ b := h2; omega)
    · obtain ⟨j2, m2, hj2, hO2⟩ := st_own b h2
      have := h.dis _ _ _ hO' hO2
      subst this
      obtain ⟨r0, hlj⟩ := hlive j2 (List.getElem?_eq_some_iff.1 hj2).1
      cases hlm : look (renMem (nameOf ms nb) M) m' with
      | none => exact look_ren_none hM hlm j2 _ hlj (name_lt j2 m' hj2)
      | some r => exact hne ⟨r, hlm⟩
end
end Go.Eng
