/- A program logic over abstract states, part N: statements; states told anew; a function's contract. -/
import Derived.Test.YtahhejlpmacloaaPart07
import Derived.Orders
namespace Go.Eng
open Go

/-- x' is told as x. -/
def cellM : Cell → Cell → Prop
  | .val v', .val v => v' = v
  | .sl n' sz' g', .sl n sz g => n' = n ∧ sz' = sz ∧ ∀ i, i < n → ∀ j, j < sz → cellM (g' i j) (g i j)
  | _, _ => False

theorem cellM.refl : ∀ x, cellM x x := by
  intro x
  induction x with
  | val v => rfl
  | sl n sz g ih => exact ⟨rfl, rfl, fun i _ j _ => ih i j⟩

theorem rep_cellM {w : World} {S : Nat → Prop} : ∀ (x' x : Cell) (u : Value), cellM x' x → rep w S x' u → rep w S x u := by
  intro x'
  induction x' with
  | val v =>
    intro x u h hr
    cases x with
    | val v' =>
      have : v = v' := h
      subst this
      exact hr
    | sl n sz g => exact h.elim
  | sl n' sz' g' ih =>
    intro x u h hr
    cases x with
    | val v' => exact h.elim
    | sl n sz g =>
      obtain ⟨rfl, rfl, h3⟩ := h
      obtain ⟨A, c, rfl, h1, h2, h4⟩ := hr
      refine ⟨A, c, rfl, h1, h2, fun hn => ?_⟩
      obtain ⟨b, o, rfl, hb, h5⟩ := h4 hn
      refine ⟨b, o, rfl, hb, fun i hi j hj => ?_⟩
      obtain ⟨y, hy, hry⟩ := h5 i hi j hj
      exact ⟨y, hy, ih i j _ _ (h3 i hi j hj) hry⟩

/-- ρ: a name told anew, and what it was told as (none: the nil slice, told as an empty row). -/
abbrev Ren := List (Nat × Option Nat)

def ptrsM (ρ : Ren) : List (Nat × Nat) → List (Nat × Nat) → Prop
  | [], [] => True
  | (m', off') :: l', (m, off) :: l => look ρ m = some (some m') ∧ off' = off ∧ ptrsM ρ l' l
  | _, _ => False

def acM (ρ : Ren) : AC → AC → Prop
  | .c x', .c x => cellM x' x
  | .nil, .nil => True
  | .nil, .own m => look ρ m = some none
  | .nil, .c (.sl n _ _) => n = 0
  | .own m', .own m => look ρ m = some (some m')
  | .ptr m' off', .ptr m off => look ρ m = some (some m') ∧ off' = off
  | .pst sz' get', .pst sz get => sz ≤ sz' ∧ ∀ j, j < sz → cellM (get' j) (get j)
  | .pow m' sz' i' j', .pow m sz i j => look ρ m = some (some m') ∧ sz' = sz ∧ i' = i ∧ j' = j
  | .clo g' caps', .clo g caps => g' = g ∧ ptrsM ρ caps' caps
  | .map m', .map m => look ρ m = some (some m')
  | .mel m' g' k', .mel m g k => look ρ m = some (some m') ∧ look ρ g = some (some g') ∧ k' = k
  | .pel g' k' sz' i' j', .pel g k sz i j => look ρ g = some (some g') ∧ k' = k ∧ sz' = sz ∧ i' = i ∧ j' = j
  | .it m', .it m => look ρ m = some (some m')
  | .any, .any => True
  | .c _, .any => True
  | _, _ => False

def acsM (ρ : Ren) : List AC → List AC → Prop
  | [], [] => True
  | a' :: l', a :: l => acM ρ a' a ∧ acsM ρ l' l
  | _, _ => False

def tsM (ρ : Ren) : List (Bool × List AC) → List (Bool × List AC) → Prop
  | [], [] => True
  | (g', a') :: l', (g, a) :: l => g' = g ∧ acsM ρ a' a ∧ tsM ρ l' l
  | _, _ => False

def avM (ρ : Ren) : AV → AV → Prop
  | _, .un => True
  | .gd b' v', .gd b v => b' = b ∧ avM ρ v' v
  | .gd b' v', v => b' = true ∧ avM ρ v' v
  | .one a', .one a => acM ρ a' a
  | .agg l', .agg l => acsM ρ l' l
  | .tup l', .tup l => tsM ρ l' l
  | _, _ => False

def resM (ρ : Ren) : Res → Res → Prop
  | _, .dead => True
  | .box ty' c', .box ty c => ty' = ty ∧ acsM ρ c' c
  | .row e' sz' n' g', .row e sz n g => e' = e ∧ sz' = sz ∧ n' = n ∧ ∀ i, i < n → ∀ j, j < sz → cellM (g' i j) (g i j)
  | .frz n' sz' g', .frz n sz g => cellM (.sl n' sz' g') (.sl n sz g)
  | .mapI n' q' a', .mapI n q a => n' = n ∧ q' = q ∧ a' = a
  | .mapR n' g' h' a', .mapR n g h a => n' = n ∧ look ρ g = some (some g') ∧ (h' = none ∧ h = none) ∧ a' = a
  | .grp e' sz' f', .grp e sz f => e' = e ∧ sz' = sz ∧ ∀ k, (f' k).1 = (f k).1 ∧ ∀ i, i < (f k).1 → ∀ j, j < sz → cellM ((f' k).2 i j) ((f k).2 i j)
  | .rowR e' g' n' h', .rowR e g n h => e' = e ∧ look ρ g = some (some g') ∧ n' = n ∧ h' = none ∧ h = none
  | .iter m' a' b' c', .iter m a b c => look ρ m = some (some m') ∧ a' = a ∧ b' = b ∧ c' = c
  | _, _ => False

def envM (ρ : Ren) (s : St) : List (Nat × AV) → Prop
  | [] => True
  | (i, v) :: l => (match look s.env i with | some v' => avM ρ v' v | none => False) ∧ envM ρ s l

def memM (ρ : Ren) (s : St) : List (Nat × Res) → Prop
  | [] => True
  | (m, r) :: l => (match look ρ m with
      | some (some m') => match look s.mem m' with | some r' => resM ρ r' r | none => False
      | some none => match r with | .row _ _ n _ => n = 0 | _ => False
      | none => False) ∧ memM ρ s l

def oldsOf : Ren → List Nat
  | [] => []
  | (_, some m) :: l => m :: oldsOf l
  | (_, none) :: l => oldsOf l

def newsOf : Ren → List Nat
  | [] => []
  | (m, _) :: l => m :: newsOf l

def keepsB (ρ : Ren) : Nat → Bool
  | 0 => true
  | k + 1 => match look ρ k with
    | some (some m) => match Nat.beq m k with
      | true => keepsB ρ k
      | false => false
    | _ => false

theorem keepsB_ok {ρ : Ren} : ∀ {k : Nat}, keepsB ρ k = true → ∀ j, j < k → look ρ j = some (some j)
  | 0, _, j, hj => by omega
  | k + 1, h, j, hj => by
    simp only [keepsB] at h
    split at h
    · rename_i m hl
      split at h
      · rename_i hb
        have := Nat.eq_of_beq_eq_true hb
        subst this
        rcases Nat.lt_or_ge j m with h1 | h1
        · exact keepsB_ok h j h1
        · obtain rfl : j = m := by omega
          exact hl
      · cases h
    · cases h

/-- The state s may be told as t, names anew by ρ (the k boxes that were handed over keep theirs); in t no name from nx on is in use. -/
structure Match (ρ : Ren) (k nx : Nat) (s t : St) : Prop where
  keeps : keepsB ρ k = true
  env : envM ρ s t.env
  mem : memM ρ s t.mem
  olds : nodupB (oldsOf ρ) = true
  news : nodupB (newsOf ρ) = true
  lt : (newsOf ρ).all (fun m => Nat.blt m nx) = true

def renμ (ρ : Ren) (μ : Mu) : Mu := fun m => match look ρ m with
  | some (some m') => μ m'
  | some none => some (.slice none 0 0)
  | none => none

section
variable {w : World} {S : Nat → Prop} {μ : Mu} {ρ : Ren}
theorem rep_ptrsM : ∀ {l' l : List (Nat × Nat)} {us : List Value}, ptrsM ρ l' l → repPtrs μ l' us → repPtrs (renμ ρ μ) l us
  | [], [], _, _, h => h
  | (m', off') :: l', (m, off) :: l, us, ⟨h1, h2, h3⟩, ⟨b, r, e, hm, hr⟩ => by
    subst h2
    exact ⟨b, r, e, by simp [renμ, h1, hm], rep_ptrsM h3 hr⟩
  | [], _ :: _, _, h, _ => h.elim
  | _ :: _, [], _, h, _ => h.elim

theorem rep_acM : ∀ {a' a : AC} {u : Value}, acM ρ a' a → repAC w S μ a' u → repAC w S (renμ ρ μ) a u := by
  intro a' a u h hr
  unfold acM at h
  split at h
  · exact rep_cellM _ _ _ h hr
  · exact hr
  · have hu : u = .slice none 0 0 := hr
    exact ⟨by simp [renμ, h, hu], _, _, _, hu⟩
  · have hu : u = .slice none 0 0 := hr
    subst h
    exact ⟨none, 0, hu, Nat.le_refl _, Nat.zero_le _, fun hn => absurd hn (by omega)⟩
  · exact ⟨by simp [renμ, h, hr.1], hr.2⟩
  · obtain ⟨h1, rfl⟩ := h
    obtain ⟨b, hb, e⟩ := hr
    exact ⟨b, by simp [renμ, h1, hb], e⟩
  · obtain ⟨h1, h2⟩ := h
    obtain ⟨b, o, e, hS, hc⟩ := hr
    refine ⟨b, o, e, hS, fun j hj => ?_⟩
    obtain ⟨x, hx, hrx⟩ := hc j (by omega)
    exact ⟨x, hx, rep_cellM _ _ _ (h2 j hj) hrx⟩
  · obtain ⟨h1, rfl, rfl, rfl⟩ := h
    obtain ⟨b, n, c, hb, e⟩ := hr
    exact ⟨b, n, c, by simp [renμ, h1, hb], e⟩
  · obtain ⟨rfl, h2⟩ := h
    obtain ⟨us, e, hp⟩ := hr
    exact ⟨us, e, rep_ptrsM h2 hp⟩
  · exact ⟨by simp [renμ, h, hr.1], hr.2⟩
  · obtain ⟨_, h2, rfl⟩ := h
    obtain ⟨l, hl, e⟩ := hr
    exact ⟨l, by simp [renμ, h2, hl], e⟩
  · obtain ⟨h1, rfl, rfl, rfl, rfl⟩ := h
    obtain ⟨l, b, n, c, hl, e⟩ := hr
    exact ⟨l, b, n, c, by simp [renμ, h1, hl], e⟩
  · exact ⟨by simp [renμ, h, hr.1], hr.2⟩
  · exact hr
  · exact rep_one hr
  · exact h.elim

theorem rep_acsM : ∀ {l' l : List AC} {us : List Value}, acsM ρ l' l → reps w S μ l' us → reps w S (renμ ρ μ) l us
  | [], [], _, _, h => h
  | _ :: _, _ :: _, _, ⟨h1, h2⟩, ⟨u, r, e, ha, hl⟩ => ⟨u, r, e, rep_acM h1 ha, rep_acsM h2 hl⟩
  | [], _ :: _, _, h, _ => h.elim
  | _ :: _, [], _, h, _ => h.elim

theorem rep_tsM : ∀ {l' l : List (Bool × List AC)} {us : List Value}, tsM ρ l' l → repTs w S μ l' us → repTs w S (renμ ρ μ) l us
  | [], [], _, _, h => h
  | (g', a') :: _, (g, a) :: _, _, ⟨h1, h2, h3⟩, ⟨cs, r, ha, e, hl⟩ => by
    subst h1
    exact ⟨cs, r, rep_acsM h2 ha, e, rep_tsM h3 hl⟩
  | [], _ :: _, _, h, _ => h.elim
  | _ :: _, [], _, h, _ => h.elim

theorem rep_avM : ∀ {v' v : AV} {u : Value}, avM ρ v' v → repAV w S μ v' u → repAV w S (renμ ρ μ) v u := by
  intro v'
  induction v' with
  | gd b' v' ih =>
    intro v u h hr
    cases v with
    | un => trivial
    | gd b v =>
      obtain ⟨rfl, h2⟩ := h
      exact ⟨fun hb => ih h2 (hr.1 hb), hr.2⟩
    | one a => obtain ⟨rfl, h2⟩ := h; exact ih h2 (hr.1 rfl)
    | agg a => obtain ⟨rfl, h2⟩ := h; exact ih h2 (hr.1 rfl)
    | tup a => obtain ⟨rfl, h2⟩ := h; exact ih h2 (hr.1 rfl)
  | one a' =>
    intro v u h hr
    cases v with
    | un => trivial
    | one a => exact rep_acM h hr
    | _ => exact h.elim
  | agg l' =>
    intro v u h hr
    cases v with
    | un => trivial
    | agg l => obtain ⟨us, e, hl⟩ := hr; exact ⟨us, e, rep_acsM h hl⟩
    | _ => exact h.elim
  | tup l' =>
    intro v u h hr
    cases v with
    | un => trivial
    | tup l => obtain ⟨us, e, hl⟩ := hr; exact ⟨us, e, rep_tsM h hl⟩
    | _ => exact h.elim
  | un =>
    intro v u h hr
    cases v with
    | un => trivial
    | _ => exact h.elim

theorem rep_envM {s : St} {tm : Array Value} (he : repEnv w S μ s.env tm) : ∀ {l : List (Nat × AV)}, envM ρ s l → repEnv w S (renμ ρ μ) l tm
  | [], _ => fun i v h => by simp [look] at h
  | (k, x) :: l, ⟨h1, h2⟩ => by
    intro i v hl
    rw [look_cons] at hl
    split at hl
    · rename_i e
      injection hl with hl
      subst e hl
      split at h1
      · rename_i v' hv'
        exact rep_avM h1 (he _ _ hv')
      · exact h1.elim
    · exact rep_envM he h2 i v hl

theorem look_memM {s : St} : ∀ {l : List (Nat × Res)}, memM ρ s l → ∀ {m : Nat} {r : Res}, look l m = some r →
    (∃ m' r', look ρ m = some (some m') ∧ look s.mem m' = some r' ∧ resM ρ r' r) ∨ (look ρ m = some none ∧ ∃ e sz get, r = .row e sz 0 get)
  | [], _, m, r, h => by simp [look] at h
  | (k, x) :: l, ⟨h1, h2⟩, m, r, h => by
    rw [look_cons] at h
    split at h
    · rename_i e
      injection h with h
      subst e h
      split at h1
      · rename_i m' hm'
        split at h1
        · rename_i r' hr'
          exact .inl ⟨m', r', hm', hr', h1⟩
        · exact h1.elim
      · rename_i hm'
        split at h1
        · subst h1
          exact .inr ⟨hm', _, _, _, rfl⟩
        · exact h1.elim
      · exact h1.elim
    · exact look_memM h2 h

theorem olds_mem : ∀ {ρ : Ren} {m m' : Nat}, look ρ m = some (some m') → m' ∈ oldsOf ρ
  | [], m, m', h => by simp [look] at h
  | (k, none) :: l, m, m', h => by
    rw [look_cons] at h
    split at h
    · cases h
    · exact @olds_mem l m m' h
  | (k, some y) :: l, m, m', h => by
    rw [look_cons] at h
    split at h
    · injection h with h
      injection h with h
      subst h
      exact List.mem_cons_self
    · exact List.mem_cons_of_mem _ (@olds_mem l m m' h)

theorem olds_inj : ∀ {ρ : Ren} {m1 m2 m' : Nat}, (oldsOf ρ).Nodup → look ρ m1 = some (some m') → look ρ m2 = some (some m') → m1 = m2
  | [], m1, m2, m', _, h, _ => by simp [look] at h
  | (k, x) :: l, m1, m2, m', hn, h1, h2 => by
    rw [look_cons] at h1 h2
    have hn' : (oldsOf l).Nodup := by
      cases x with
      | none => exact hn
      | some y => exact (List.nodup_cons.1 hn).2
    split at h1
    · rename_i e1
      split at h2
      · rename_i e2; exact e1.symm.trans e2
      · injection h1 with h1
        subst h1
        exact absurd (olds_mem h2) (List.nodup_cons.1 hn).1
    · split at h2
      · injection h2 with h2
        subst h2
        exact absurd (olds_mem h1) (List.nodup_cons.1 hn).1
      · exact olds_inj hn' h1 h2

theorem news_mem : ∀ {ρ : Ren} {m : Nat} {x : Option Nat}, look ρ m = some x → m ∈ newsOf ρ
  | [], m, x, h => by simp [look] at h
  | (k, y) :: l, m, x, h => by
    rw [look_cons] at h
    split at h
    · rename_i e; subst e; exact List.mem_cons_self
    · exact List.mem_cons_of_mem _ (news_mem h)

theorem Wp.renamed {F : Fr} {s : St} (h : Wp F w S μ s.mem) {mem : List (Nat × Res)} (hm : memM ρ s mem) (hn : (oldsOf ρ).Nodup) : Wp F w S (renμ ρ μ) mem := by
  have back : ∀ m b, Owns (renμ ρ μ) mem m b → ∃ m', look ρ m = some (some m') ∧ Owns μ s.mem m' b := by
    rintro m b ⟨r, v, hl, hr, hv, hb⟩
    rcases look_memM hm hl with ⟨m', r', h1, h2, h3⟩ | ⟨h1, e, sz, get, rfl⟩
    · refine ⟨m', h1, r', v, h2, ?_, by simpa [renμ, h1] using hv, hb⟩
      cases r <;> cases r' <;> simp_all [resM, Res.live]
    · simp only [renμ, h1, Option.some.injEq] at hv
      subst hv
      simp [blks] at hb
  refine ⟨h.grow, h.Sb, h.Sn, h.Sf, fun m r hl => ?_, fun m b hO => ?_, fun m m' b hO hO' => ?_⟩
  · rcases look_memM hm hl with ⟨m', r', h1, h2, h3⟩ | ⟨h1, e, sz, get, rfl⟩
    · have hr := h.res m' r' h2
      unfold resM at h3
      split at h3
      · trivial
      · obtain ⟨rfl, h4⟩ := h3
        obtain ⟨b, us, g1, g2, g3⟩ := hr
        exact ⟨b, us, by simp [renμ, h1, g1], g2, rep_acsM h4 g3⟩
      · obtain ⟨rfl, rfl, rfl, h4⟩ := h3
        obtain ⟨v, xs, g1, g2, g3⟩ := hr
        refine ⟨v, xs, by simp [renμ, h1, g1], g2, fun i hi j hj => ?_⟩
        obtain ⟨x, hx, hrx⟩ := g3 i hi j hj
        exact ⟨x, hx, rep_cellM _ _ _ (h4 i hi j hj) hrx⟩
      · obtain ⟨v, g1, g2⟩ := hr
        exact ⟨v, by simp [renμ, h1, g1], rep_cellM _ _ _ h3 g2⟩
      · obtain ⟨rfl, rfl, rfl⟩ := h3
        obtain ⟨r, g1, g2⟩ := hr
        exact ⟨r, by simp [renμ, h1, g1], g2⟩
      · obtain ⟨rfl, h4, ⟨rfl, rfl⟩, rfl⟩ := h3
        obtain ⟨r, l, xs, g1, g2, g3, ⟨l', rfl, g5⟩, g6⟩ := hr
        exact ⟨r, l', xs, by simp [renμ, h1, g1], by simp [renμ, h4, g2], g3, ⟨l', rfl, g5⟩, g6⟩
      · obtain ⟨rfl, rfl, h4⟩ := h3
        obtain ⟨l, hn, g1, g2, g3⟩ := hr
        refine ⟨l, hn, by simp [renμ, h1, g1], fun k => ?_, g3⟩
        obtain ⟨xs, g4, g5⟩ := g2 k
        obtain ⟨h5, h6⟩ := h4 k
        rw [h5] at g4 g5
        refine ⟨xs, g4, fun i hi j hj => ?_⟩
        obtain ⟨x, hx, hrx⟩ := g5 i hi j hj
        exact ⟨x, hx, rep_cellM _ _ _ (h6 i hi j hj) hrx⟩
      · obtain ⟨rfl, h4, rfl, rfl, rfl⟩ := h3
        obtain ⟨v, l, xs, g1, g2, g3, l', rfl, g5⟩ := hr
        exact ⟨v, l', xs, by simp [renμ, h1, g1], by simp [renμ, h4, g2], g3, l', rfl, g5⟩
      · obtain ⟨h4, rfl, rfl, rfl⟩ := h3
        obtain ⟨b, r, g1, g2, g3⟩ := hr
        exact ⟨b, r, by simp [renμ, h1, g1], by simp [renμ, h4, g2], g3⟩
      · exact h3.elim
    · exact ⟨.slice none 0 0, [], by simp [renμ, h1], World.ownsRow_nil w 0 e sz, fun i hi => absurd hi (by omega)⟩
  · obtain ⟨m', _, hO'⟩ := back m b hO
    exact h.sep m' b hO'
  · obtain ⟨m1, h1, hO1⟩ := back m b hO
    obtain ⟨m2, h2, hO2⟩ := back m' b hO'
    have := h.dis m1 m2 b hO1 hO2
    subst this
    exact olds_inj hn h1 h2
end

theorem RelN.told {F : Fr} {N nx nx' : Nat} {s t : St} {a : Act} {w : World} {ρ : Ren} (h : RelN F N nx s a w) (hm : Match ρ F.k nx' s t) : RelN F N nx' t a w := by
  obtain ⟨h1, h2, hk, S, μ, h3, h4, _, hmu⟩ := h
  refine ⟨h1, h2, hk, S, renμ ρ μ, h3.renamed hm.mem (nodupB_ok hm.olds), rep_envM h4 hm.env, fun m hmn => ?_, fun j v hj => ?_⟩
  rotate_left
  · have hlt : j < F.k := by
      rcases Nat.lt_or_ge j F.k with h | h
      · exact h
      · rw [hk j h] at hj; cases hj
    simp [renμ, keepsB_ok hm.keeps j hlt, hmu j v hj]
  unfold renμ
  split
  · rename_i m' hl
    have := List.all_eq_true.1 hm.lt m (news_mem hl)
    rw [Nat.blt_eq] at this
    have hmn' : nx' ≤ m := hmn
    omega
  · rename_i hl
    have := List.all_eq_true.1 hm.lt m (news_mem hl)
    rw [Nat.blt_eq] at this
    have hmn' : nx' ≤ m := hmn
    omega
  · rfl

/-! ### statements -/
/-- From the state s the code comes to a way out e, at a state of which K tells. -/
def W (P : Program) (F : Fr) (N : Nat) (c : Code) (nx : Nat) (s : St) (K : Exit → Nat → St → Prop) : Prop :=
  ∀ a w, RelN F N nx s a w → c.wp P (fun e a' w' => ∃ nx' s', K e nx' s' ∧ RelN F N nx' s' a' w') a w

section
variable {P : Program} {F : Fr} {N nx : Nat} {s : St} {K : Exit → Nat → St → Prop}

theorem W.skip (h : K .normal nx s) : W P F N .skip nx s K := fun _ _ hr => wp_skip ⟨nx, s, h, hr⟩
theorem W.ret (h : K .ret nx s) : W P F N .ret nx s K := fun _ _ hr => wp_ret ⟨nx, s, h, hr⟩
theorem W.exit {id : Nat} (h : K (.exit id) nx s) : W P F N (.exit id) nx s K := fun _ _ hr => wp_exit ⟨nx, s, h, hr⟩

def thenK (K2 : Nat → St → Prop) (K : Exit → Nat → St → Prop) : Exit → Nat → St → Prop
  | .normal, nx, s => K2 nx s
  | e, nx, s => K e nx s

theorem W.seq {x y : Code} (h : W P F N x nx s (thenK (fun nx' s' => W P F N y nx' s' K) K)) : W P F N (.seq x y) nx s K := by
  intro a w hr
  refine wp_seq (wp_mono (h a w hr) ?_)
  rintro e a' w' ⟨nx', s', hk, hr'⟩
  cases e with
  | normal => exact hk a' w' hr'
  | _ => exact ⟨nx', s', hk, hr'⟩

theorem W.cond {c : Operand} {x y : Code} {b : Bool} (hb : opnd s c = some (.one (.c (.val (.bool b))))) (ht : b = true → W P F N x nx s K) (hf : b = false → W P F N y nx s K) : W P F N (.cond c x y) nx s K := by
  intro a w hr
  obtain ⟨_, _, _, S, μ, _, he, _⟩ := id hr
  have hv : a.eval c = .bool b := (rep_opnd he hb).1
  exact wp_cond_split hv (fun h => ht h a w hr) (fun h => hf h a w hr)

def blockK (id : Nat) (K : Exit → Nat → St → Prop) : Exit → Nat → St → Prop
  | .exit id', nx, s => if id' = id then K .normal nx s else K (.exit id') nx s
  | e, nx, s => K e nx s

theorem W.block {id : Nat} {c : Code} (h : W P F N c nx s (blockK id K)) : W P F N (.block id c) nx s K := by
  intro a w hr
  refine wp_block (wp_mono (h a w hr) ?_)
  rintro e a' w' ⟨nx', s', hk, hr'⟩
  cases e with
  | exit id' =>
    simp only [blockK] at hk
    simp only [Exit.inBlock]
    split
    · rename_i e
      rw [if_pos e] at hk
      exact ⟨nx', s', hk, hr'⟩
    · rename_i e
      rw [if_neg e] at hk
      exact ⟨nx', s', hk, hr'⟩
  | _ => exact ⟨nx', s', hk, hr'⟩

/-- A loop: I g is the state at a round's head, μ g falls. -/
theorem W.loop {c : Code} {γ : Type} (I : γ → St) (nxI : Nat) (m : γ → Nat) (g0 : γ) (ρ : Ren) (h0 : Match ρ F.k nxI s (I g0))
    (hr : ∀ g, W P F N c nxI (I g) (thenK (fun _ s' => ∃ g' ρ, Match ρ F.k nxI s' (I g') ∧ m g' < m g) K)) : W P F N (.loop c) nx s K := by
  intro a w hra b k cs
  have key : ∀ n g, m g = n → ∀ a w, RelN F N nxI (I g) a w →
      ∃ e a' w', (∃ nx' s', K e nx' s' ∧ RelN F N nx' s' a' w') ∧ Arrives P (lone (b.at a (.code c :: .inLoop c :: k)) cs w) b k cs e a' w' := by
    intro n
    induction n using Nat.strongRecOn with
    | _ n ih =>
      intro g hn a w hR
      obtain ⟨e, a1, w1, ⟨nx1, s1, hk, hR1⟩, harr⟩ := hr g a w hR b (.inLoop c :: k) cs
      cases e with
      | normal =>
        obtain ⟨g', ρ', hm, hlt⟩ := hk
        obtain ⟨e2, a2, w2, hq2, harr2⟩ := ih (m g') (hn ▸ hlt) g' rfl a1 w1 (hR1.told hm)
        exact ⟨e2, a2, w2, hq2, .of_steps (Steps.trans harr (.one step_inLoop)) harr2⟩
      | exit id => exact ⟨_, a1, w1, ⟨nx1, s1, hk, hR1⟩, .pass (x := .inLoop c) rfl (fun _ _ => .inl (by simp)) harr⟩
      | goto l => exact ⟨_, a1, w1, ⟨nx1, s1, hk, hR1⟩, .pass (x := .inLoop c) rfl (fun _ _ => .inl (by simp)) harr⟩
      | ret => exact ⟨_, a1, w1, ⟨nx1, s1, hk, hR1⟩, .pass (x := .inLoop c) rfl (fun _ _ => .inl (by simp)) harr⟩
      | panic ch => exact ⟨_, a1, w1, ⟨nx1, s1, hk, hR1⟩, .pass (x := .inLoop c) rfl (fun _ _ => .inl (by simp)) harr⟩
      | outgrown => exact ⟨_, a1, w1, ⟨nx1, s1, hk, hR1⟩, .pass (x := .inLoop c) rfl (fun _ _ => .inl (by simp)) harr⟩
  obtain ⟨e, a', w', hq, harr⟩ := key _ g0 rfl a w (hra.told h0)
  exact ⟨e, a', w', hq, .of_steps (.one step_loop) harr⟩

/-- The state is told anew, and what is then known of it suffices. -/
theorem W.cut {c : Code} {ρ : Ren} {nx' : Nat} {t : St} (hm : Match ρ F.k nx' s t) (h : W P F N c nx' t K) : W P F N c nx s K := fun a w hr => h a w (hr.told hm)

theorem W.mono {c : Code} {K' : Exit → Nat → St → Prop} (h : W P F N c nx s K) (hk : ∀ e nx s, K e nx s → K' e nx s) : W P F N c nx s K' :=
  fun a w hr => wp_mono (h a w hr) fun _ _ _ ⟨nx', s', h1, h2⟩ => ⟨nx', s', hk _ _ _ h1, h2⟩

/-- Ways that meet: y begins at a state of the form I g. -/
theorem W.meet {x y : Code} {γ : Type} (I : γ → St) (nxI : Nat) (hx : W P F N x nx s (thenK (fun _ s' => ∃ g ρ, Match ρ F.k nxI s' (I g)) K)) (hy : ∀ g, W P F N y nxI (I g) K) : W P F N (.seq x y) nx s K := by
  refine W.seq (hx.mono ?_)
  intro e nx s hk
  cases e with
  | normal =>
    obtain ⟨g, ρ, hm⟩ := hk
    exact W.cut hm (hy g)
  | _ => exact hk

variable {T : Tab}
theorem W.region (hT : TabOK P T) {G : List (Nat × FSpec)} (hG : GOK P G) {id : Nat} {ops : Array Oper} {c : List Prop} {s' : St} (h : runOps T G N ops.toList ops.toList nx s = some (c, s')) (hc : All c) (hk : K .normal (nx + 16 * ops.size) s') :
    W P F N (.region id ops false) nx s K := by
  intro a w hr
  refine wp_region ?_
  rw [List.range_eq_range']
  have := runOps_ok (F := F) (P := P) hT hG (ops := ops) (Q := fun e a' w' => ∃ nx' s', K e nx' s' ∧ RelN F N nx' s' a' w') (i := 0) h hc (by simp) hr (fun a' w' hr' => ⟨_, s', by simpa using hk, hr'⟩)
  simpa using this

theorem W.seqR (hT : TabOK P T) {G : List (Nat × FSpec)} (hG : GOK P G) {id : Nat} {ops : Array Oper} {y : Code} {c : List Prop} {s' : St} (h : runOps T G N ops.toList ops.toList nx s = some (c, s')) (hc : All c)
    (hy : W P F N y (nx + 16 * ops.size) s' K) : W P F N (.seq (.region id ops false) y) nx s K := W.seq (W.region hT hG h hc hy)
end
end Go.Eng

/- A program logic over abstract states, part O: a function's contract, from its body. -/
namespace Go.Eng
open Go

def envOf : Nat → List AV → List (Nat × AV)
  | _, [] => []
  | i, v :: l => (i, v) :: envOf (i + 1) l

def resAV (T : Tab) (s : St) : ResultVar → Option AV
  | .tmp t => match look s.env t with
    | some (.one a) => some (.one a)
    | some (.agg l) => some (.agg l)
    | _ => none
  | .cell a t => match look s.env a with
    | some (.one (.ptr m off)) => match look s.mem m with
      | some (.box _ cells) => match look T t with
        | some ti => match Nat.ble (off + ti.size) cells.length with
          | true => aggIf (isAggD ti.desc) ((cells.drop off).take ti.size)
          | false => none
        | none => none
      | _ => none
    | _ => none

def resList (T : Tab) (s : St) : List ResultVar → Option (List (Bool × List AC))
  | [] => some []
  | r :: l => match resAV T s r with
    | some (.one a) => match resList T s l with
      | some t => some ((false, [a]) :: t)
      | none => none
    | some (.agg cs) => match resList T s l with
      | some t => some ((true, cs) :: t)
      | none => none
    | _ => none

def resultsAV (T : Tab) (s : St) (rs : List ResultVar) : Option AV :=
  match rs with
  | [r] => resAV T s r
  | rs => match resList T s rs with
    | some l => some (.tup l)
    | none => none

section
variable {P : Program} {T : Tab} {w : World} {S : Nat → Prop} {μ : Mu} {F : Fr}

def resRun (tm : Array Value) : ResultVar → Sem Value
  | .tmp t => pure (tm.getD t undef)
  | .cell a t => do loadVar t (← asAddr (tm.getD a undef))

theorem resAV_ok (hT : TabOK P T) {s : St} {tm : Array Value} (hw : Wp F w S μ s.mem) (he : repEnv w S μ s.env tm) {r : ResultVar} {v : AV} (h : resAV T s r = some v) :
    ∃ u, (resRun tm r).run P w = .ok u w ∧ repAV w S μ v u := by
  cases r with
  | tmp t =>
    simp only [resAV] at h
    split at h
    · rename_i a hl
      simp only [Option.some.injEq] at h
      subst h
      exact ⟨_, rfl, he t _ hl⟩
    · rename_i a hl
      simp only [Option.some.injEq] at h
      subst h
      exact ⟨_, rfl, he t _ hl⟩
    · cases h
  | cell a t =>
    simp only [resAV] at h
    split at h
    · rename_i m off hl
      split at h
      · rename_i ty cells hm
        split at h
        · rename_i ti hti
          split at h
          · rename_i hle0
            have hle := Nat.le_of_ble_eq_true hle0
            obtain ⟨b, hb, hxe⟩ := he a _ hl
            obtain ⟨b', us, h1, h2, h3, h4, h5⟩ := box_cells hw hm
            rw [hb] at h1
            injection h1 with h1
            injection h1 with h1
            injection h1 with h1
            injection h1 with h1
            subst h1
            obtain ⟨u, g1, g2⟩ := run_loadVar' (hT _ _ hti) w b off ((us.drop off).take ti.size) (by rw [List.length_take, List.length_drop]; omega) (fun j u hj => by
              rw [List.getElem?_take] at hj
              split at hj
              · rw [List.getElem?_drop] at hj
                exact h5 _ _ hj
              · cases hj) (reps_take _ (reps_drop _ h3)) h
            refine ⟨u, ?_, g2⟩
            have hxe' : tm.getD a undef = .pointer (some ⟨b, off, none⟩) := hxe
            simp only [resRun, hxe', asAddr]
            rw [Sem.run_bind, Sem.run_pure, Result.andThen_ok]
            exact g1
          · cases h
        · cases h
      · cases h
    · cases h

theorem resList_ok (hT : TabOK P T) {s : St} {tm : Array Value} (hw : Wp F w S μ s.mem) (he : repEnv w S μ s.env tm) : ∀ {l : List ResultVar} {t : List (Bool × List AC)}, resList T s l = some t →
    ∃ us, (l.mapM (resRun tm)).run P w = .ok us w ∧ repTs w S μ t us
  | [], t, h => by
    simp only [resList, Option.some.injEq] at h
    subst h
    exact ⟨[], by simp, rfl⟩
  | r :: l, t, h => by
    simp only [resList] at h
    split at h
    · rename_i a hr
      split at h
      · rename_i t' ht
        simp only [Option.some.injEq] at h
        subst h
        obtain ⟨u, h1, h2⟩ := resAV_ok hT hw he hr
        obtain ⟨us, h3, h4⟩ := resList_ok hT hw he ht
        refine ⟨u :: us, ?_, [u], us, ⟨u, [], rfl, h2, rfl⟩, ⟨u, rfl, rfl⟩, h4⟩
        simp [List.mapM_cons, h1, h3]
      · cases h
    · rename_i cs hr
      split at h
      · rename_i t' ht
        simp only [Option.some.injEq] at h
        subst h
        obtain ⟨u, h1, h2⟩ := resAV_ok hT hw he hr
        obtain ⟨us, h3, h4⟩ := resList_ok hT hw he ht
        obtain ⟨cu, e1, e2⟩ := h2
        refine ⟨u :: us, ?_, cu, us, e2, ?_, h4⟩
        · simp [List.mapM_cons, h1, h3]
        · simp [e1]
      · cases h
    · cases h

theorem results_ok (hT : TabOK P T) {s : St} {tm : Array Value} (hw : Wp F w S μ s.mem) (he : repEnv w S μ s.env tm) {fn : Func} {v : AV} (h : resultsAV T s fn.results.toList = some v) :
    ∃ u, (results fn tm).run P w = .ok u w ∧ repAV w S μ v u := by
  have hrun : ∀ us : List Value, (fn.results.toList.mapM (resRun tm)).run P w = .ok us w → (results fn tm).run P w = .ok (if h : us.toArray.size = 1 then us.toArray[0] else .tuple us.toArray) w := by
    intro us hus
    have e : results fn tm = (do
        let vs ← fn.results.mapM (resRun tm)
        pure (if h : vs.size = 1 then vs[0] else .tuple vs)) := by
      unfold results
      congr 1
    rw [e, Sem.run_bind, Array.mapM_eq_mapM_toList, Sem.run_map, hus]
    rfl
  unfold resultsAV at h
  split at h
  · rename_i r hr
    obtain ⟨u, h1, h2⟩ := resAV_ok hT hw he h
    have := hrun [u] (by rw [hr]; simp [h1])
    exact ⟨u, by simpa using this, h2⟩
  · rename_i rs hne
    split at h
    · rename_i t ht
      simp only [Option.some.injEq] at h
      subst h
      obtain ⟨us, h1, h2⟩ := resList_ok hT hw he ht
      have := hrun us h1
      have hlen : us.length ≠ 1 := by
        have len : ∀ {t : List (Bool × List AC)} {us : List Value}, repTs w S μ t us → us.length = t.length := by
          intro t
          induction t with
          | nil => intro us h; rw [h]; rfl
          | cons x t ih =>
            obtain ⟨g, l⟩ := x
            rintro us ⟨cs, r, _, e, hr⟩
            cases g with
            | true => simp only [if_true] at e; rw [e]; simp [ih hr]
            | false => simp only [Bool.false_eq_true, if_false] at e; obtain ⟨u, _, e⟩ := e; rw [e]; simp [ih hr]
        have len2 : ∀ {l : List ResultVar} {t : List (Bool × List AC)}, resList T s l = some t → t.length = l.length := by
          intro l
          induction l with
          | nil => intro t h; simp only [resList, Option.some.injEq] at h; rw [← h]; rfl
          | cons r l ih =>
            intro t h
            simp only [resList] at h
            split at h
            · split at h
              · rename_i ht
                simp only [Option.some.injEq] at h
                subst h
                simp [ih ht]
              · cases h
            · split at h
              · rename_i ht
                simp only [Option.some.injEq] at h
                subst h
                simp [ih ht]
              · cases h
            · cases h
        rw [len h2, len2 ht]
        intro h1
        obtain ⟨r, hr⟩ := List.length_eq_one_iff.1 h1
        exact hne r hr
      refine ⟨.tuple us.toArray, ?_, us, rfl, h2⟩
      simpa [hlen] using this
    · cases h

/-- How a function may end. k: the boxes that it was handed. -/
def endK (T : Tab) (rs : List ResultVar) (k : Nat) (out : Out) : Exit → Nat → St → Prop
  | .ret, _, s => ∃ v ρ, resultsAV T s rs = some v ∧ Match ρ k (k + 16) ⟨[(0, v)], s.mem⟩ ⟨[(0, out.val)], out.mem⟩
  | .normal, _, s => ∃ v ρ, resultsAV T s rs = some v ∧ Match ρ k (k + 16) ⟨[(0, v)], s.mem⟩ ⟨[(0, out.val)], out.mem⟩
  | _, _, _ => False

theorem repEnv_args : ∀ {args : List AV} {vs : List Value} {k : Nat} {pre : List Value}, pre.length = k → repAVs w S μ args vs → ∀ (n : Nat), repEnv w S μ (envOf k args) ((pre ++ vs).toArray ++ Array.replicate n undef)
  | [], vs, k, pre, _, h, n => fun i v hl => by simp [envOf, look] at hl
  | a :: l, vs, k, pre, hp, ⟨u, r, e, ha, hl⟩, n => by
    subst e
    intro i v hlk
    simp only [envOf] at hlk
    rw [look_cons] at hlk
    split at hlk
    · rename_i e
      injection hlk with hlk
      subst e hlk
      have : ((pre ++ u :: r).toArray ++ Array.replicate n undef).getD k undef = u := by
        subst hp
        rw [Array.getD_eq_getD_getElem?, Array.getElem?_append_left (by simp)]
        simp
      rw [this]
      exact ha
    · have := repEnv_args (pre := pre ++ [u]) (k := k + 1) (by simp [hp]) hl n i v hlk
      simpa using this

theorem Holds.of (hT : TabOK P T) {g : Nat} {fn : Func} {c : Code} {sp : FSpec} (hf : P.funcs[g]? = some fn) (hb : fn.body = some c) (N : Nat) (hN : fn.ntmps = N)
    (h : ∀ (args : List AV) (bs : List Res) (out : Out), sp args bs = some out → All out.cond → args.length ≤ N ∧ (∀ r ∈ bs, r.live = true) ∧ ∀ F : Fr, F.k = bs.length → W P F N c bs.length ⟨envOf 0 args, idxMem 0 bs⟩ (endK T fn.results.toList bs.length out)) : Holds P g sp := by
  intro args bs out hsp hc w S μ vs hw hr hμ
  obtain ⟨hlen, hbox, hW⟩ := h args bs out hsp hc
  have hvl : vs.length = args.length := by
    have : ∀ {l : List AV} {us : List Value}, repAVs w S μ l us → us.length = l.length := by
      intro l
      induction l with
      | nil => intro us h; rw [h]; rfl
      | cons x l ih => rintro us ⟨u, r, e, _, hl⟩; rw [e]; simp [ih hl]
    exact this hr
  refine calls_of_wp hf hb (wp_mono (hW (frOf w S μ bs.length) rfl _ w ⟨rfl, ?_, hμ, S, μ, hw, ?_, hμ, fun _ _ h => h⟩) ?_)
  · simp [hN]; omega
  · have := repEnv_args (w := w) (S := S) (μ := μ) (pre := []) rfl hr (fn.ntmps - vs.toArray.size)
    simpa using this
  · rintro e a' w' ⟨nx', s', hk, hR⟩
    have fin : (∃ v ρ, resultsAV T s' fn.results.toList = some v ∧ Match ρ bs.length (bs.length + 16) ⟨[(0, v)], s'.mem⟩ ⟨[(0, out.val)], out.mem⟩) →
        a'.defers = [] ∧ ∃ v, (results fn a'.tmps).run P w' = .ok v w' ∧ ∃ u S' μ', (Ending.returned v) = .returned u ∧ Kp w w' S S' μ μ' ∧ Wp (frOf w S μ bs.length) w' S' μ' out.mem ∧ repAV w' S' μ' out.val u ∧ ∀ m, bs.length + 16 ≤ m → μ' m = none := by
      rintro ⟨v, ρ, hv, hm⟩
      obtain ⟨hd, _, _, S', μ', hw', he', _, hmu⟩ := hR
      obtain ⟨u, h1, h2⟩ := results_ok hT hw' he' hv
      refine ⟨hd, u, h1, u, S', renμ ρ μ', rfl, ⟨hw'.Sf, fun b hb => ?_, fun m x hx => ?_⟩, hw'.renamed (s := ⟨[(0, v)], s'.mem⟩) hm.mem (nodupB_ok hm.olds), ?_, fun m hmn => ?_⟩
      · refine hw'.grow.block b (hw.Sb b hb) ?_
        rintro ⟨j, x, hx, hbk⟩
        have hx' : μ j = some x := hx
        have hj : j < bs.length := by
          rcases Nat.lt_or_ge j bs.length with h | h
          · exact h
          · rw [hμ j h] at hx'; cases hx'
        have hO : Owns μ (idxMem 0 bs) j b := by
          have hlk : ∀ (l : List Res) (k j : Nat), j < l.length → ∃ r, look (idxMem k l) (k + j) = some r ∧ l[j]? = some r := by
            intro l
            induction l with
            | nil => intro k j hj; simp at hj
            | cons y l ih =>
              intro k j hj
              simp only [idxMem]
              rw [look_cons]
              cases j with
              | zero => simp
              | succ j =>
                rw [if_neg (by omega)]
                obtain ⟨r, h1, h2⟩ := ih (k + 1) j (by simpa using hj)
                exact ⟨r, by rw [show k + (j + 1) = k + 1 + j from by omega]; exact h1, by simpa using h2⟩
          obtain ⟨r, hl1, hl2⟩ := hlk bs 0 j hj
          rw [Nat.zero_add] at hl1
          exact ⟨_, x, hl1, hbox r (List.mem_of_getElem? hl2), hx', hbk⟩
        exact (hw.sep j b hO).1 hb
      · have hj : m < bs.length := by
          rcases Nat.lt_or_ge m bs.length with h | h
          · exact h
          · rw [hμ m h] at hx; cases hx
        simp [renμ, keepsB_ok hm.keeps m hj, hmu m x hx]
      · have he0 : repEnv w' S' μ' [(0, v)] #[u] := by
          intro i x hl
          rw [look_cons] at hl
          split at hl
          · rename_i e
            injection hl with hl
            subst e hl
            simpa using h2
          · simp [look] at hl
        have := rep_envM (s := ⟨[(0, v)], s'.mem⟩) he0 hm.env
        simpa using this 0 out.val (by simp [look])
      · unfold renμ
        split
        · rename_i m' hl
          have := List.all_eq_true.1 hm.lt m (news_mem hl)
          rw [Nat.blt_eq] at this
          omega
        · rename_i hl
          have := List.all_eq_true.1 hm.lt m (news_mem hl)
          rw [Nat.blt_eq] at this
          omega
        · rfl
    cases e with
    | normal => exact fin hk
    | ret => exact fin hk
    | _ => exact hk.elim
end
end Go.Eng

/- A program logic over abstract states, part P: a region that draws its order. -/
namespace Go.Eng
open Go

/-! ### what an operation's effect depends on -/
def isPure : Op → Bool
  | .move _ => true
  | .assign _ => true
  | .pick .. => true
  | .build .. => true
  | .load .. => true
  | .nilCheck _ => true
  | .binOp .. => true
  | .unOp .. => true
  | .convert .. => true
  | .makeFunc .. => true
  | .fieldAddr .. => true
  | .field .. => true
  | .indexAddr .. => true
  | .extract .. => true
  | .call ⟨.builtin .len, _, _⟩ => true
  | .lookup .. => true
  | .index .. => true
  | .call ⟨.builtin .max, _, _⟩ => true
  | .call ⟨.builtin .min, _, _⟩ => true
  | _ => false

/-- The names that a pure operation reads. -/
def readsAt (s : St) (x : Operand) : List Nat :=
  match arg s x with
  | some (_, .one (.ptr m _)) => [m]
  | some (_, .one (.pow m _ _ _)) => match look s.mem m with
    | some (.rowR _ g _ _) => [m, g]
    | _ => [m]
  | some (_, .one (.own m)) => [m]
  | some (_, .one (.map m)) => [m]
  | some (_, .one (.mel _ g _)) => [g]
  | some (_, .one (.pel g _ _ _ _)) => [g]
  | _ => []

/-- .. and a look into a map. -/
def readsMap (s : St) (x : Operand) : List Nat :=
  match arg s x with
  | some (_, .one (.map m)) => match look s.mem m with
    | some (.mapR _ g _ _) => [m, g]
    | _ => [m]
  | _ => []

def reads (s : St) : Op → List Nat
  | .load _ x => readsAt s x
  | .indexAddr _ x _ => readsAt s x
  | .call ⟨.builtin .len, ⟨[x]⟩, _⟩ => readsAt s x
  | .lookup _ x _ _ => readsMap s x
  | _ => []

section
variable {T : Tab} {G : List (Nat × FSpec)} {s s' : St}

theorem arg_congr {x : Operand} (h : opnd s x = opnd s' x) : arg s x = arg s' x := by unfold arg; rw [h]

theorem bound_congr {d : Int} {x : Option Operand} (h : ∀ y, x = some y → opnd s y = opnd s' y) : bound s d x = bound s' d x := by
  cases x with
  | none => rfl
  | some y => simp only [bound, arg_congr (h y rfl)]

theorem parts_congr : ∀ {l : List (Nat × Operand)}, (∀ p ∈ l, opnd s p.2 = opnd s' p.2) → partsAC T s l = partsAC T s' l
  | [], _ => rfl
  | (i, x) :: l, h => by
    have h1 := arg_congr (h (i, x) List.mem_cons_self)
    simp only at h1
    simp only [partsAC, h1, parts_congr (fun p hp => h p (List.mem_cons_of_mem _ hp))]

theorem caps_congr : ∀ {l : List Operand}, (∀ x ∈ l, opnd s x = opnd s' x) → capPtrs s l = capPtrs s' l
  | [], _ => rfl
  | x :: l, h => by simp only [capPtrs, arg_congr (h x List.mem_cons_self), caps_congr (fun p hp => h p (List.mem_cons_of_mem _ hp))]

theorem args_congr : ∀ {l : List Operand}, (∀ x ∈ l, opnd s x = opnd s' x) → argsOf s l = argsOf s' l
  | [], _ => rfl
  | x :: l, h => by simp only [argsOf, arg_congr (h x List.mem_cons_self), args_congr (fun p hp => h p (List.mem_cons_of_mem _ hp))]

theorem append_congr {d t t2 : Nat} {x y : Operand} (hx : arg s x = arg s' x) (hy : arg s y = arg s' y) (hm : s.mem = s'.mem) : appendEff T s d t t2 x y = appendEff T s' d t t2 x y := by
  simp only [appendEff, hx, hy, hm]

theorem opnd_cons {r : Nat} {v : AV} {M M' : List (Nat × Res)} {y : Operand} (h : opnd s y = opnd s' y) : opnd ⟨(r, v) :: s.env, M⟩ y = opnd ⟨(r, v) :: s'.env, M'⟩ y := by
  cases y with
  | tmp t =>
    simp only [opnd, look_cons] at h ⊢
    rw [h]
  | _ => exact h

theorem appendR_congr {d t t2 : Nat} {x y : Operand} (hx : opnd s x = opnd s' x) (hy : opnd s y = opnd s' y) (hm : s.mem = s'.mem) : appendR T s d t t2 x y = appendR T s' d t t2 x y := by
  cases x with
  | tmp r =>
    have hr : look s.env r = look s'.env r := hx
    simp only [appendR, hr, hm]
    split
    · rename_i m g k hl
      cases takeEff s'.mem d m g k with
      | none => rfl
      | some dl =>
        simp only
        rw [append_congr (s := ⟨(r, .one (.own (d + 2))) :: s.env, dl ++ s'.mem⟩) (s' := ⟨(r, .one (.own (d + 2))) :: s'.env, dl ++ s'.mem⟩) (arg_congr (opnd_cons hx)) (arg_congr (opnd_cons hy)) rfl]
    · rfl
  | _ => rfl

theorem opEff_congr {nb : Nat} {op : Op} (h : ∀ x ∈ op.operands.toList, opnd s x = opnd s' x) (hm : s.mem = s'.mem) : opEff T G s nb op = opEff T G s' nb op := by
  unfold opEff
  split
  · rename_i x; simp only [moveEff, h x (by simp [Op.operands])]
  · rename_i x; simp only [moveEff, h x (by simp [Op.operands])]
  · rename_i c a b
    simp only [pick, arg_congr (h c (by simp [Op.operands])), h a (by simp [Op.operands]), h b (by simp [Op.operands])]
  · rfl
  · rename_i x; simp only [boxEff, arg_congr (h x (by simp [Op.operands]))]
  · rename_i t ps
    have hp : ∀ p ∈ ps.toList, opnd s p.2 = opnd s' p.2 := fun p hp => h p.2 (by simp [Op.operands]; exact ⟨p.1, by simpa using hp⟩)
    simp only [buildEff, parts_congr hp]
  · rename_i t n ps
    have hp : ∀ p ∈ ps.toList, opnd s p.2 = opnd s' p.2 := fun p hp => h p.2 (by simp [Op.operands]; exact ⟨p.1, by simpa using hp⟩)
    simp only [buildSliceEff, parts_congr hp, hm]
  · rename_i x; simp only [loadEff, loadR, arg_congr (h x (by simp [Op.operands])), hm]
  · rename_i t x v
    simp only [storeEff, storeR, arg_congr (h x (by simp [Op.operands])), arg_congr (h v (by simp [Op.operands])), hm]
  · rename_i x; simp only [nilCheckEff, arg_congr (h x (by simp [Op.operands]))]
  · rename_i x y t2
    simp only [binEff, arg_congr (h x (by simp [Op.operands])), arg_congr (h y (by simp [Op.operands]))]
  · rename_i x; simp only [unEff, arg_congr (h x (by simp [Op.operands]))]
  · rename_i x; simp only [convEff, arg_congr (h x (by simp [Op.operands]))]
  · rename_i f first caps
    simp only [makeFuncEff, caps_congr (s := s) (s' := s') (l := caps.toList) (fun x hx => h x (by simp [Op.operands]; exact .inr (by simpa using hx)))]
  · rename_i t x lo hi mx
    have b1 := bound_congr (s := s) (s' := s') (d := 0) (x := lo) (fun y hy => h y (by simp [Op.operands, hy]))
    have b2 := fun d => bound_congr (s := s) (s' := s') (d := d) (x := hi) (fun y hy => h y (by simp [Op.operands, hy]))
    simp only [sliceEff, arg_congr (h x (by simp [Op.operands])), hm, b1, b2]
  · rename_i x f; simp only [fieldAddrEff, arg_congr (h x (by simp [Op.operands]))]
  · rename_i x f; simp only [fieldEff, arg_congr (h x (by simp [Op.operands]))]
  · rename_i t x i
    simp only [indexAddrEff, indexR, arg_congr (h x (by simp [Op.operands])), arg_congr (h i (by simp [Op.operands])), hm]
  · rename_i x i; simp only [extractEff, arg_congr (h x (by simp [Op.operands]))]
  · rename_i f args ats
    have hf := arg_congr (h f (by simp [Op.operands, Call.operands]))
    have ha := args_congr (s := s) (s' := s') (l := args.toList) (fun x hx => h x (by simp [Op.operands, Call.operands]; exact .inr (by simpa using hx)))
    simp only [callEff, hf, ha, hm]
  · rename_i x t
    simp only [lenEff, lenR, arg_congr (h x (by simp [Op.operands, Call.operands])), hm]
  · rename_i x y t t2
    rw [append_congr (arg_congr (h x (by simp [Op.operands, Call.operands]))) (arg_congr (h y (by simp [Op.operands, Call.operands]))) hm, appendR_congr (h x (by simp [Op.operands, Call.operands])) (h y (by simp [Op.operands, Call.operands])) hm]
  · rfl
  · rename_i t x k ok
    simp only [lookupEff, arg_congr (h x (by simp [Op.operands])), arg_congr (h k (by simp [Op.operands])), hm]
  · rename_i t x k v
    simp only [updateEff, updateR, arg_congr (h x (by simp [Op.operands])), arg_congr (h k (by simp [Op.operands])), arg_congr (h v (by simp [Op.operands])), hm]
  · rename_i t x k v
    simp only [updateEff, arg_congr (h x (by simp [Op.operands])), arg_congr (h k (by simp [Op.operands])), arg_congr (h v (by simp [Op.operands])), hm]
  · rename_i x y
    simp only [makeRows, arg_congr (h x (by simp [Op.operands])), arg_congr (h y (by simp [Op.operands]))]
  · rename_i x
    simp only [rangeEff, arg_congr (h x (by simp [Op.operands])), hm]
  · rename_i x i
    simp only [strIndexEff, arg_congr (h x (by simp [Op.operands])), arg_congr (h i (by simp [Op.operands]))]
  · rename_i x y ts
    simp only [mmEff, arg_congr (h x (by simp [Op.operands, Call.operands])), arg_congr (h y (by simp [Op.operands, Call.operands]))]
  · rename_i x y ts
    simp only [mmEff, arg_congr (h x (by simp [Op.operands, Call.operands])), arg_congr (h y (by simp [Op.operands, Call.operands]))]
  · rename_i x k t t2
    simp only [deleteEff, arg_congr (h x (by simp [Op.operands, Call.operands])), arg_congr (h k (by simp [Op.operands, Call.operands])), hm]
  · rfl

theorem lookup_congr {t : Nat} {x k : Operand} {ok : Bool} (h : opnd s x = opnd s' x) (hk : opnd s k = opnd s' k) (hr : ∀ m ∈ readsMap s x, look s.mem m = look s'.mem m) : lookupEff T s t x k ok = lookupEff T s' t x k ok := by
  have ha := arg_congr h
  have hak := arg_congr hk
  unfold lookupEff
  rw [ha, hak]
  unfold readsMap at hr
  rw [ha] at hr
  cases look T t with
  | none => rfl
  | some ti =>
    simp only
    split
    · split
      · split
        · rename_i c m hx
          rw [hx] at hr
          simp only at hr
          have hm : look s.mem m = look s'.mem m := hr m (by split <;> simp)
          rw [hm] at hr
          simp only [hm]
          cases hl : look s'.mem m with
          | none => rfl
          | some r =>
            cases r with
            | mapR n g hole a =>
              rw [hl] at hr
              cases hole with
              | none =>
                have hg : look s.mem g = look s'.mem g := hr g (by simp)
                simp only [hg]
              | some _ => rfl
            | mapI n q a => cases q <;> rfl
            | _ => rfl
        · rfl
      · rfl
    · rfl

theorem load_congr {t : Nat} {x : Operand} (h : opnd s x = opnd s' x) (hr : ∀ m ∈ readsAt s x, look s.mem m = look s'.mem m) : loadEff T s t x = loadEff T s' t x := by
  have ha := arg_congr h
  unfold loadEff
  cases look T t with
  | none => rfl
  | some ti =>
    simp only
    rw [ha]
    unfold readsAt at hr
    rw [ha] at hr
    split
    · rename_i c m off hx
      rw [hx] at hr
      simp only [hr m (List.mem_singleton.2 rfl)]
    · rfl
    · rename_i c m sz i j hx
      rw [hx] at hr
      simp only [hr m (by simp only []; split <;> simp)]
    · rename_i c g k sz i j hx
      rw [hx] at hr
      simp only [hr g (List.mem_singleton.2 rfl)]
    · rfl

theorem loadR_congr {t : Nat} {x : Operand} (h : opnd s x = opnd s' x) (hr : ∀ m ∈ readsAt s x, look s.mem m = look s'.mem m) : loadR T s t x = loadR T s' t x := by
  have ha := arg_congr h
  unfold loadR
  cases look T t with
  | none => rfl
  | some ti =>
    simp only
    split
    · rw [ha]
      unfold readsAt at hr
      rw [ha] at hr
      split
      · rename_i c m i hx
        rw [hx] at hr
        simp only at hr
        have hm : look s.mem m = look s'.mem m := hr m (by split <;> simp)
        rw [hm] at hr ⊢
        split
        · rename_i e g n hl
          rw [hl] at hr
          rw [hr g (by simp)]
        · rfl
      · rfl
    · rfl

theorem lenR_congr {t : Nat} {x : Operand} (h : opnd s x = opnd s' x) (hr : ∀ m ∈ readsAt s x, look s.mem m = look s'.mem m) : lenR T s t x = lenR T s' t x := by
  have ha := arg_congr h
  unfold lenR
  cases look T t with
  | none => rfl
  | some ti =>
    simp only
    split
    · rw [ha]
      unfold readsAt at hr
      rw [ha] at hr
      split
      · rename_i c m hx
        rw [hx] at hr
        rw [hr m (List.mem_singleton.2 rfl)]
      · rfl
    · rfl

theorem indexR_congr {t : Nat} {x i : Operand} (h : opnd s x = opnd s' x) (hi : opnd s i = opnd s' i) (hr : ∀ m ∈ readsAt s x, look s.mem m = look s'.mem m) : indexR T s t x i = indexR T s' t x i := by
  have ha := arg_congr h
  have hai := arg_congr hi
  unfold indexR
  rw [ha, hai]
  unfold readsAt at hr
  rw [ha] at hr
  cases look T t with
  | none => rfl
  | some ti =>
    simp only
    split
    · rename_i e _
      cases look T e with
      | none => rfl
      | some te =>
        simp only
        split
        · rename_i c m hx
          rw [hx] at hr
          simp only [hr m (List.mem_singleton.2 rfl)]
        · rfl
    · rfl

theorem len_congr {t : Nat} {x : Operand} (h : opnd s x = opnd s' x) (hr : ∀ m ∈ readsAt s x, look s.mem m = look s'.mem m) : lenEff T s t x = lenEff T s' t x := by
  have ha := arg_congr h
  unfold lenEff
  cases look T t with
  | none => rfl
  | some ti =>
    simp only
    rw [ha]
    unfold readsAt at hr
    rw [ha] at hr
    cases hx : arg s' x with
    | none => rfl
    | some p =>
      obtain ⟨c, v⟩ := p
      rw [hx] at hr
      have hl : lenOf s.mem v = lenOf s'.mem v := by
        unfold lenOf
        split
        · rfl
        · rfl
        · simp only [hr _ (List.mem_singleton.2 rfl)]
        · simp only [hr _ (List.mem_singleton.2 rfl)]
        · rfl
      have hml : mapLen s.mem v = mapLen s'.mem v := by
        unfold mapLen
        split
        · simp only [hr _ (List.mem_singleton.2 rfl)]
        · rfl
      simp only [hl, hml]

theorem index_congr {t : Nat} {x i : Operand} (h : opnd s x = opnd s' x) (hi : opnd s i = opnd s' i) (hr : ∀ m ∈ readsAt s x, look s.mem m = look s'.mem m) : indexAddrEff T s t x i = indexAddrEff T s' t x i := by
  have ha := arg_congr h
  have hai := arg_congr hi
  unfold indexAddrEff
  rw [ha, hai]
  unfold readsAt at hr
  rw [ha] at hr
  cases look T t with
  | none => rfl
  | some ti =>
    simp only
    split
    · rename_i e _
      cases look T e with
      | none => rfl
      | some te =>
        simp only
        split
        · rename_i c a hx
          rw [hx] at hr
          split
          · cases a with
            | own m => simp only [hr m (List.mem_singleton.2 rfl)]
            | mel m g k => simp only [hr g (List.mem_singleton.2 rfl)]
            | c x => cases x <;> rfl
            | _ => rfl
          · rfl
        · rfl
    · rfl

theorem pure_congr {nb : Nat} {op : Op} (hp : isPure op = true) (h : ∀ x ∈ op.operands.toList, opnd s x = opnd s' x) (hr : ∀ m ∈ reads s op, look s.mem m = look s'.mem m) : opEff T G s nb op = opEff T G s' nb op := by
  unfold opEff
  split
  all_goals first
    | (simp [isPure] at hp; done)
    | rfl
    | skip
  · rename_i x; simp only [moveEff, h x (by simp [Op.operands])]
  · rename_i x; simp only [moveEff, h x (by simp [Op.operands])]
  · rename_i c a b
    simp only [pick, arg_congr (h c (by simp [Op.operands])), h a (by simp [Op.operands]), h b (by simp [Op.operands])]
  · rename_i t ps
    have hp : ∀ p ∈ ps.toList, opnd s p.2 = opnd s' p.2 := fun p hp => h p.2 (by simp [Op.operands]; exact ⟨p.1, by simpa using hp⟩)
    simp only [buildEff, parts_congr hp]
  · rw [load_congr (h _ (by simp [Op.operands])) hr, loadR_congr (h _ (by simp [Op.operands])) hr]
  · rename_i x; simp only [nilCheckEff, arg_congr (h x (by simp [Op.operands]))]
  · rename_i x y t2
    simp only [binEff, arg_congr (h x (by simp [Op.operands])), arg_congr (h y (by simp [Op.operands]))]
  · rename_i x; simp only [unEff, arg_congr (h x (by simp [Op.operands]))]
  · rename_i x; simp only [convEff, arg_congr (h x (by simp [Op.operands]))]
  · rename_i f first caps
    simp only [makeFuncEff, caps_congr (s := s) (s' := s') (l := caps.toList) (fun x hx => h x (by simp [Op.operands]; exact .inr (by simpa using hx)))]
  · rename_i x f; simp only [fieldAddrEff, arg_congr (h x (by simp [Op.operands]))]
  · rename_i x f; simp only [fieldEff, arg_congr (h x (by simp [Op.operands]))]
  · rw [index_congr (h _ (by simp [Op.operands])) (h _ (by simp [Op.operands])) hr, indexR_congr (h _ (by simp [Op.operands])) (h _ (by simp [Op.operands])) hr]
  · rename_i x i; simp only [extractEff, arg_congr (h x (by simp [Op.operands]))]
  · rw [len_congr (h _ (by simp [Op.operands, Call.operands])) hr, lenR_congr (h _ (by simp [Op.operands, Call.operands])) hr]
  · exact lookup_congr (h _ (by simp [Op.operands])) (h _ (by simp [Op.operands])) hr
  · rename_i x i
    simp only [strIndexEff, arg_congr (h x (by simp [Op.operands])), arg_congr (h i (by simp [Op.operands]))]
  · rename_i x y ts
    simp only [mmEff, arg_congr (h x (by simp [Op.operands, Call.operands])), arg_congr (h y (by simp [Op.operands, Call.operands]))]
  · rename_i x y ts
    simp only [mmEff, arg_congr (h x (by simp [Op.operands, Call.operands])), arg_congr (h y (by simp [Op.operands, Call.operands]))]
end
end Go.Eng
