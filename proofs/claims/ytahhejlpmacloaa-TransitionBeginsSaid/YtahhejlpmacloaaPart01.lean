/- A program logic over abstract states, part A: abstract values, what they stand for, how that is kept. -/
import Derived.Below
import Derived.Laws.AppendOwn
import Derived.Maps.AppendAt
import Derived.Calls
import Derived.MapKept
import Derived.Laws.StructEq
namespace Go.Eng
open Go

/-- What one cell of settled memory reads as: a scalar, or a slice of n elements of sz cells each. -/
inductive Cell where
  | val (v : Value)
  | sl (n sz : Nat) (get : Nat → Nat → Cell)

def scal : Value → Bool
  | .bool _ => true
  | .int _ _ => true
  | .string _ => true
  | _ => false

/-- The value u reads as the cell, over blocks of S alone. -/
def rep (w : World) (S : Nat → Prop) : Cell → Value → Prop
  | .val v, u => u = v ∧ scal v = true
  | .sl n sz get, u => ∃ A c, u = .slice A n c ∧ n ≤ c ∧ c ≤ maxLen ∧
      (0 < n → ∃ b o, A = some ⟨b, o, none⟩ ∧ S b ∧ ∀ i, i < n → ∀ j, j < sz → ∃ x, w.cell? ⟨b, o + i * sz + j, none⟩ = some x ∧ rep w S (get i j) x)

theorem cell_keep {w w' : World} {b o : Nat} (h : w'.heap[b]? = w.heap[b]?) : w'.cell? ⟨b, o, none⟩ = w.cell? ⟨b, o, none⟩ :=
  World.cell?_of_block (w := w) (a := ⟨b, o, none⟩) h

theorem rep_keep {w w' : World} {S S' : Nat → Prop} (hS : ∀ b, S b → S' b) (hw : ∀ b, S b → w'.heap[b]? = w.heap[b]?) :
    ∀ (c : Cell) (u : Value), rep w S c u → rep w' S' c u := by
  intro c
  induction c with
  | val v => intro u h; exact h
  | sl n sz get ih =>
    intro u h
    obtain ⟨A, c, rfl, h1, h2, h3⟩ := h
    refine ⟨A, c, rfl, h1, h2, fun hn => ?_⟩
    obtain ⟨b, o, rfl, hb, h4⟩ := h3 hn
    refine ⟨b, o, rfl, hS b hb, fun i hi j hj => ?_⟩
    obtain ⟨x, hx, hr⟩ := h4 i hi j hj
    exact ⟨x, by rw [cell_keep (hw b hb)]; exact hx, ih i j x hr⟩

/-- Only the elements below the length count. -/
theorem rep_congr {w : World} {S : Nat → Prop} {n sz : Nat} {get get' : Nat → Nat → Cell} {u : Value} (h : rep w S (.sl n sz get) u)
    (e : ∀ i, i < n → ∀ j, j < sz → get i j = get' i j) : rep w S (.sl n sz get') u := by
  obtain ⟨A, c, rfl, h1, h2, h3⟩ := h
  refine ⟨A, c, rfl, h1, h2, fun hn => ?_⟩
  obtain ⟨b, o, rfl, hb, h4⟩ := h3 hn
  exact ⟨b, o, rfl, hb, fun i hi j hj => by rw [← e i hi j hj]; exact h4 i hi j hj⟩

theorem rep_one {w : World} {S : Nat → Prop} {c : Cell} {u : Value} (h : rep w S c u) : u.oneCell' = true ∧ u.cells = #[u] := by
  cases c with
  | val v =>
    obtain ⟨rfl, hs⟩ := h
    cases u <;> simp_all [scal, Value.oneCell', Value.cells]
  | sl n sz get =>
    obtain ⟨A, c, rfl, _⟩ := h
    exact ⟨rfl, rfl⟩

/-- What a cell of a slot or of a box of the call's own holds. -/
inductive AC where
  | c (x : Cell)
  | nil
  | own (m : Nat)
  | ptr (m off : Nat)
  | pst (sz : Nat) (get : Nat → Cell)
  | pow (m sz i j : Nat)
  | clo (g : Nat) (caps : List (Nat × Nat))
  | map (m : Nat)
  | mel (m g : Nat) (k : List Int)
  | pel (g : Nat) (k : List Int) (sz i j : Nat)
  | it (m : Nat)
  | any

inductive AV where
  | one (a : AC)
  | agg (l : List AC)
  | tup (l : List (Bool × List AC))
  | un
  | gd (b : Bool) (v : AV)

/-- A map's entry: its key, its value (an int, or a bool as 0 or 1), when it was born. -/
structure MEnt where
  k : List Int
  v : Int
  b : Nat

/-- A map's entries in the order of their birth, and its clock. -/
structure AM where
  es : List MEnt
  c : Nat

/-- No key twice, no birth twice, all born. -/
structure AM.WF (a : AM) : Prop where
  keys : (a.es.map (·.k)).Nodup
  births : (a.es.map (·.b)).Nodup
  born : ∀ e ∈ a.es, e.b < a.c

inductive Res where
  | box (ty : Nat) (cells : List AC)
  | row (e sz n : Nat) (get : Nat → Nat → Cell)
  | frz (n sz : Nat) (get : Nat → Nat → Cell)
  | dead
  | mapI (n q : Nat) (a : AM)
  | mapR (n g : Nat) (hole : Option (List Int × Nat)) (a : AM)
  | grp (e sz : Nat) (f : List Int → Nat × (Nat → Nat → Cell))
  | rowR (e g n : Nat) (hole : Option (List Int × Nat))
  | iter (m since : Nat) (seen : List Nat) (last : Nat)

/-- A key's value. -/
def keyV : List Int → Value
  | [x] => .int .i64 x
  | l => .agg (l.map (Value.int .i64)).toArray

/-- A group of rows, each under a key, laid into one value. -/
def encG (l : List (List Int × Value)) : Value := .agg (l.map fun p => .agg (p.2 :: p.1.map (Value.int .i64)).toArray).toArray

def valAt : List (List Int × Value) → List Int → Value
  | [], _ => .slice none 0 0
  | (k', v) :: l, k => if k' = k then v else valAt l k

theorem map_int_inj : ∀ {l l' : List Int}, l.map (Value.int .i64) = l'.map (Value.int .i64) → l = l'
  | [], [], _ => rfl
  | x :: l, y :: l', h => by
    simp only [List.map_cons, List.cons.injEq, Value.int.injEq, true_and] at h
    rw [h.1, map_int_inj h.2]
  | [], _ :: _, h => by simp at h
  | _ :: _, [], h => by simp at h

theorem map_row_inj : ∀ {l l' : List (List Int × Value)}, (l.map fun p => Value.agg (p.2 :: p.1.map (Value.int .i64)).toArray) = (l'.map fun p => Value.agg (p.2 :: p.1.map (Value.int .i64)).toArray) → l = l'
  | [], [], _ => rfl
  | (x1, x2) :: l, (y1, y2) :: l', h => by
    simp only [List.map_cons, List.cons.injEq] at h
    obtain ⟨h1, h2⟩ := h
    injection h1 with h1
    have h1 := congrArg Array.toList h1
    simp only [List.cons.injEq] at h1
    rw [map_row_inj h2, h1.1, map_int_inj h1.2]
  | [], _ :: _, h => by simp at h
  | _ :: _, [], h => by simp at h

theorem encG_inj {l l' : List (List Int × Value)} (h : encG l = encG l') : l = l' := by
  unfold encG at h
  injection h with h
  exact map_row_inj (congrArg Array.toList h)

def look {α : Type} : List (Nat × α) → Nat → Option α
  | [], _ => none
  | (k, v) :: l, i => match Nat.beq k i with
    | true => some v
    | false => look l i

theorem look_cons {α : Type} (k : Nat) (v : α) (l : List (Nat × α)) (i : Nat) : look ((k, v) :: l) i = if k = i then some v else look l i := by
  cases hb : Nat.beq k i with
  | true => rw [if_pos (Nat.eq_of_beq_eq_true hb)]; simp [look, hb]
  | false => rw [if_neg (Nat.ne_of_beq_eq_false hb)]; simp [look, hb]

structure St where
  env : List (Nat × AV)
  mem : List (Nat × Res)

/-- Names of the call's own memory: what value each stands for. -/
abbrev Mu := Nat → Option Value

def repPtrs (μ : Mu) : List (Nat × Nat) → List Value → Prop
  | [], us => us = []
  | (m, off) :: l, us => ∃ b r, us = .pointer (some ⟨b, off, none⟩) :: r ∧ μ m = some (.pointer (some ⟨b, 0, none⟩)) ∧ repPtrs μ l r

def repAC (w : World) (S : Nat → Prop) (μ : Mu) : AC → Value → Prop
  | .c x, u => rep w S x u
  | .nil, u => u = .slice none 0 0
  | .own m, u => μ m = some u ∧ ∃ A n c, u = .slice A n c
  | .ptr m off, u => ∃ b, μ m = some (.pointer (some ⟨b, 0, none⟩)) ∧ u = .pointer (some ⟨b, off, none⟩)
  | .pst sz get, u => ∃ b o, u = .pointer (some ⟨b, o, none⟩) ∧ S b ∧ ∀ j, j < sz → ∃ x, w.cell? ⟨b, o + j, none⟩ = some x ∧ rep w S (get j) x
  | .pow m sz i j, u => ∃ b n c, μ m = some (.slice (some ⟨b, 0, none⟩) n c) ∧ u = .pointer (some ⟨b, i * sz + j, none⟩)
  | .clo g caps, u => ∃ us, u = .func (.func g) #[] us.toArray ∧ repPtrs μ caps us
  | .map m, u => μ m = some u ∧ ∃ r, u = .map (some r)
  | .mel _ g k, u => ∃ l, μ g = some (encG l) ∧ u = valAt l k ∧ ∃ A n c, u = .slice A n c
  | .pel g k sz i j, u => ∃ l b n c, μ g = some (encG l) ∧ valAt l k = .slice (some ⟨b, 0, none⟩) n c ∧ u = .pointer (some ⟨b, i * sz + j, none⟩)
  | .it m, u => μ m = some u ∧ ∃ a, u = .pointer (some a)
  | .any, u => u.oneCell' = true ∧ u.cells = #[u]

def reps (w : World) (S : Nat → Prop) (μ : Mu) : List AC → List Value → Prop
  | [], us => us = []
  | a :: l, us => ∃ u r, us = u :: r ∧ repAC w S μ a u ∧ reps w S μ l r

def repTs (w : World) (S : Nat → Prop) (μ : Mu) : List (Bool × List AC) → List Value → Prop
  | [], us => us = []
  | (g, l) :: ts, us => ∃ cs r, reps w S μ l cs ∧ (if g then us = .agg cs.toArray :: r else ∃ u, cs = [u] ∧ us = u :: r) ∧ repTs w S μ ts r

def repAV (w : World) (S : Nat → Prop) (μ : Mu) : AV → Value → Prop
  | .one a, u => repAC w S μ a u
  | .agg l, u => ∃ us, u = .agg us.toArray ∧ reps w S μ l us
  | .tup l, u => ∃ us, u = .tuple us.toArray ∧ repTs w S μ l us
  | .un, _ => True
  | .gd b v, u => (b = true → repAV w S μ v u) ∧ (b = false → u = undef)

/-- How facts are handed on: S grows, S's blocks stay, names keep what they stand for. -/
structure Kp (w w' : World) (S S' : Nat → Prop) (μ μ' : Mu) : Prop where
  sub : ∀ b, S b → S' b
  wd : ∀ b, S b → w'.heap[b]? = w.heap[b]?
  mu : ∀ m v, μ m = some v → μ' m = some v

section
variable {w w' : World} {S S' : Nat → Prop} {μ μ' : Mu}
theorem Kp.refl (w : World) (S : Nat → Prop) (μ : Mu) : Kp w w S S μ μ := ⟨fun _ h => h, fun _ _ => rfl, fun _ _ h => h⟩
theorem Kp.ptrs (k : Kp w w' S S' μ μ') : ∀ (l : List (Nat × Nat)) (us : List Value), repPtrs μ l us → repPtrs μ' l us
  | [], _, h => h
  | _ :: l, _, ⟨b, r, h1, h2, h3⟩ => ⟨b, r, h1, k.mu _ _ h2, k.ptrs l r h3⟩
theorem Kp.ac (k : Kp w w' S S' μ μ') : ∀ (a : AC) (u : Value), repAC w S μ a u → repAC w' S' μ' a u
  | .c x, u, h => rep_keep k.sub k.wd x u h
  | .nil, _, h => h
  | .own _, _, ⟨h, h'⟩ => ⟨k.mu _ _ h, h'⟩
  | .ptr _ _, _, ⟨b, h, e⟩ => ⟨b, k.mu _ _ h, e⟩
  | .pst _ _, _, ⟨b, o, e, hb, h⟩ => ⟨b, o, e, k.sub _ hb, fun j hj => by
      obtain ⟨x, hx, hr⟩ := h j hj
      exact ⟨x, by rw [cell_keep (k.wd b hb)]; exact hx, rep_keep k.sub k.wd _ _ hr⟩⟩
  | .pow _ _ _ _, _, ⟨b, n, c, h, e⟩ => ⟨b, n, c, k.mu _ _ h, e⟩
  | .clo _ _, _, ⟨us, e, h⟩ => ⟨us, e, k.ptrs _ _ h⟩
  | .map _, _, ⟨h, h'⟩ => ⟨k.mu _ _ h, h'⟩
  | .mel _ _ _, _, ⟨l, h, e⟩ => ⟨l, k.mu _ _ h, e⟩
  | .pel _ _ _ _ _, _, ⟨l, b, n, c, h, e⟩ => ⟨l, b, n, c, k.mu _ _ h, e⟩
  | .it _, _, ⟨h, h'⟩ => ⟨k.mu _ _ h, h'⟩
  | .any, _, h => h
theorem Kp.acs (k : Kp w w' S S' μ μ') : ∀ (l : List AC) (us : List Value), reps w S μ l us → reps w' S' μ' l us
  | [], _, h => h
  | _ :: l, _, ⟨u, r, e, h, hl⟩ => ⟨u, r, e, k.ac _ _ h, k.acs l r hl⟩
theorem Kp.ts (k : Kp w w' S S' μ μ') : ∀ (l : List (Bool × List AC)) (us : List Value), repTs w S μ l us → repTs w' S' μ' l us
  | [], _, h => h
  | (_, _) :: l, _, ⟨cs, r, h, e, hl⟩ => ⟨cs, r, k.acs _ _ h, e, k.ts l r hl⟩
theorem Kp.av (k : Kp w w' S S' μ μ') : ∀ (v : AV) (u : Value), repAV w S μ v u → repAV w' S' μ' v u
  | .one _, _, h => k.ac _ _ h
  | .agg _, _, ⟨us, e, h⟩ => ⟨us, e, k.acs _ _ h⟩
  | .tup _, _, ⟨us, e, h⟩ => ⟨us, e, k.ts _ _ h⟩
  | .un, _, _ => trivial
  | .gd _ v, u, h => ⟨fun hb => k.av v u (h.1 hb), h.2⟩
theorem Kp.trans {w'' : World} {S'' : Nat → Prop} {μ'' : Mu} (k : Kp w w' S S' μ μ') (k' : Kp w' w'' S' S'' μ' μ'') : Kp w w'' S S'' μ μ'' :=
  ⟨fun b h => k'.sub b (k.sub b h), fun b h => (k'.wd b (k.sub b h)).trans (k.wd b h), fun m v h => k'.mu m v (k.mu m v h)⟩
end

theorem repAC_one {w : World} {S : Nat → Prop} {μ : Mu} {a : AC} {u : Value} (h : repAC w S μ a u) : u.oneCell' = true ∧ u.cells = #[u] := by
  cases a with
  | c x => exact rep_one h
  | nil => subst h; exact ⟨rfl, rfl⟩
  | own m => obtain ⟨_, A, n, c, rfl⟩ := h; exact ⟨rfl, rfl⟩
  | ptr m off => obtain ⟨b, _, rfl⟩ := h; exact ⟨rfl, rfl⟩
  | pst sz get => obtain ⟨b, o, rfl, _⟩ := h; exact ⟨rfl, rfl⟩
  | pow m sz i j => obtain ⟨b, n, c, _, rfl⟩ := h; exact ⟨rfl, rfl⟩
  | clo g caps => obtain ⟨us, rfl, _⟩ := h; exact ⟨rfl, rfl⟩
  | map m => obtain ⟨_, r, rfl⟩ := h; exact ⟨rfl, rfl⟩
  | mel m g k => obtain ⟨_, _, _, A, n, c, rfl⟩ := h; exact ⟨rfl, rfl⟩
  | pel g k sz i j => obtain ⟨l, b, n, c, _, _, rfl⟩ := h; exact ⟨rfl, rfl⟩
  | it m => obtain ⟨_, a, rfl⟩ := h; exact ⟨rfl, rfl⟩
  | any => exact h

theorem reps_one {w : World} {S : Nat → Prop} {μ : Mu} : ∀ {l : List AC} {us : List Value}, reps w S μ l us → us.length = l.length ∧ ∀ u ∈ us, u.oneCell' = true
  | [], _, h => by subst h; simp
  | _ :: l, _, ⟨u, r, e, h, hl⟩ => by
    subst e
    obtain ⟨h1, h2⟩ := reps_one hl
    exact ⟨by simp [h1], fun x hx => by
      rcases List.mem_cons.1 hx with rfl | hx
      · exact (repAC_one h).1
      · exact h2 x hx⟩

theorem reps_get {w : World} {S : Nat → Prop} {μ : Mu} : ∀ {l : List AC} {us : List Value}, reps w S μ l us → ∀ (i : Nat) (a : AC), l[i]? = some a → ∃ u, us[i]? = some u ∧ repAC w S μ a u
  | [], _, _, i, a, hi => by simp at hi
  | _ :: l, _, ⟨u, r, e, h, hl⟩, 0, a, hi => by
    subst e
    simp at hi
    subst hi
    exact ⟨u, by simp, h⟩
  | _ :: l, _, ⟨u, r, e, h, hl⟩, i + 1, a, hi => by
    subst e
    simp at hi
    obtain ⟨x, hx, hr⟩ := reps_get hl i a hi
    exact ⟨x, by simpa using hx, hr⟩

theorem reps_append {w : World} {S : Nat → Prop} {μ : Mu} : ∀ {l l' : List AC} {us us' : List Value}, reps w S μ l us → reps w S μ l' us' → reps w S μ (l ++ l') (us ++ us')
  | [], _, _, _, h, h' => by subst h; exact h'
  | _ :: l, l', _, us', ⟨u, r, e, h, hl⟩, h' => by
    subst e
    exact ⟨u, r ++ us', rfl, h, reps_append hl h'⟩

theorem reps_take {w : World} {S : Nat → Prop} {μ : Mu} : ∀ {l : List AC} {us : List Value} (k : Nat), reps w S μ l us → reps w S μ (l.take k) (us.take k)
  | [], _, k, h => by subst h; simp [reps]
  | _ :: l, _, 0, _ => by simp [reps]
  | _ :: l, _, k + 1, ⟨u, r, e, h, hl⟩ => by
    subst e
    exact ⟨u, r.take k, by simp, h, reps_take k hl⟩

theorem reps_drop {w : World} {S : Nat → Prop} {μ : Mu} : ∀ {l : List AC} {us : List Value} (k : Nat), reps w S μ l us → reps w S μ (l.drop k) (us.drop k)
  | [], _, k, h => by subst h; simp [reps]
  | _ :: l, us, 0, h => h
  | _ :: l, _, k + 1, ⟨u, r, e, h, hl⟩ => by
    subst e
    simpa using reps_drop k hl

/-- Does the block behind a name belong to the call, to be written? -/
def Res.live : Res → Bool
  | .box _ _ => true
  | .row _ _ _ _ => true
  | .mapI _ _ _ => true
  | .mapR _ _ _ _ => true
  | .grp _ _ _ => true
  | .rowR _ _ _ _ => true
  | .iter _ _ _ _ => true
  | _ => false

def blk1 : Value → Option Nat
  | .agg ds => match ds.toList with
    | .slice (some a) _ _ :: _ => some a.block
    | _ => none
  | _ => none

/-- The blocks that a name's value stands for. -/
def blks : Value → List Nat
  | .pointer (some a) => [a.block]
  | .slice (some a) _ _ => [a.block]
  | .map (some r) => [r]
  | .agg cs => cs.toList.filterMap blk1
  | _ => []

theorem valAt_blks {l : List (List Int × Value)} {k : List Int} {a : Addr} {n c : Nat} (h : valAt l k = .slice (some a) n c) : a.block ∈ blks (encG l) := by
  unfold encG blks
  simp only [List.mem_filterMap]
  induction l with
  | nil => simp [valAt] at h
  | cons p l ih =>
    obtain ⟨k', v⟩ := p
    simp only [valAt] at h
    split at h
    · subst h
      exact ⟨_, by simp only [List.map_cons]; exact List.mem_cons_self, rfl⟩
    · obtain ⟨x, hx, e⟩ := ih h
      exact ⟨x, by simp only [List.map_cons]; exact List.mem_cons_of_mem _ hx, e⟩

def valQ : Nat → Int → Value
  | 0, x => .int .i64 x
  | _, x => .bool (x != 0)

def toEnt (q : Nat) (e : MEnt) : MapEntry := ⟨keyV e.k, valQ q e.v, e.b⟩

/-- The rows that lie in a map or a slice: the group's, and under the hole's key what its name stands for. -/
def holeL (μ : Mu) : Option (List Int × Nat) → List (List Int × Value) → List (List Int × Value) → Prop
  | none, l, l' => l' = l
  | some (k, q), l, l' => ∃ v, μ q = some v ∧ l' = (k, v) :: l

theorem holeL_mono {μ μ' : Mu} (h : ∀ m v, μ m = some v → μ' m = some v) : ∀ {hole : Option (List Int × Nat)} {l l' : List (List Int × Value)}, holeL μ hole l l' → holeL μ' hole l l'
  | none, _, _, e => e
  | some (_, _), _, _, ⟨v, h1, h2⟩ => ⟨v, h _ _ h1, h2⟩

/-- The entries of a map whose values are rows of a group. -/
def entsR (l : List (List Int × Value)) : List MEnt → List MapEntry → Prop
  | [], xs => xs = []
  | e :: es, xs => ∃ x r, xs = x :: r ∧ x.key = keyV e.k ∧ x.born = e.b ∧ x.val = valAt l e.k ∧ entsR l es r

def repRes (w : World) (S : Nat → Prop) (μ : Mu) (m : Nat) : Res → Prop
  | .box ty cells => ∃ b us, μ m = some (.pointer (some ⟨b, 0, none⟩)) ∧ w.heap[b]? = some (.cells (List.toArray us) ty (0, 0)) ∧ reps w S μ cells us
  | .row e sz n get => ∃ v xs, μ m = some v ∧ w.ownsRow 0 e sz v n xs ∧ ∀ i, i < n → ∀ j, j < sz → ∃ x, xs[i * sz + j]? = some x ∧ rep w S (get i j) x
  | .frz n sz get => ∃ v, μ m = some v ∧ rep w S (.sl n sz get) v
  | .dead => True
  | .mapI n q a => ∃ r, μ m = some (.map (some r)) ∧ w.heap[r]? = some (.map (a.es.map (toEnt q)).toArray a.c) ∧ (∀ e ∈ a.es, e.k.length = n) ∧ a.WF
  | .mapR n g hole a => ∃ r l xs, μ m = some (.map (some r)) ∧ μ g = some (encG l) ∧ w.heap[r]? = some (.map (List.toArray xs) a.c) ∧ (∃ l', holeL μ hole l l' ∧ entsR l' a.es xs ∧ ∀ k, (∀ e ∈ a.es, e.k ≠ k) → valAt l' k = .slice none 0 0) ∧ (∀ e ∈ a.es, e.k.length = n) ∧ a.WF
  | .grp e sz f => ∃ l, (l.map (·.1)).Nodup ∧ μ m = some (encG l) ∧ (∀ k, ∃ xs, w.ownsRow 0 e sz (valAt l k) (f k).1 xs ∧ ∀ i, i < (f k).1 → ∀ j, j < sz → ∃ x, xs[i * sz + j]? = some x ∧ rep w S ((f k).2 i j) x) ∧
      ∀ k k' b, k ≠ k' → (valAt l k).ownBlock = some b → (valAt l k').ownBlock ≠ some b
  | .rowR e g n hole => ∃ v l xs, μ m = some v ∧ μ g = some (encG l) ∧ w.ownsRow 0 e 1 v n xs ∧ ∃ l', holeL μ hole l l' ∧ ∀ i : Nat, i < n → xs[i]? = some (valAt l' [(i : Int)])
  | .iter m' since seen last => ∃ b r, μ m = some (.pointer (some ⟨b, 0, none⟩)) ∧ μ m' = some (.map (some r)) ∧ w.heap[b]? = some (.mapIter (some r) since seen.toArray last)

/-- What the call began with: the world, and the blocks of elder memory that it may write. -/
structure Fr where
  w : World
  st : Nat → Prop
  S : Nat → Prop
  mu : Mu
  k : Nat

structure Grow (F : Fr) (w : World) : Prop where
  os : w.os = F.w.os
  tape : w.tape = F.w.tape
  output : w.output = F.w.output
  size : F.w.heap.size ≤ w.heap.size
  block : ∀ k, k < F.w.heap.size → ¬ F.st k → w.heap[k]? = F.w.heap[k]?

/-- The name m stands for memory of the call's own in block b. -/
def Owns (μ : Mu) (mem : List (Nat × Res)) (m b : Nat) : Prop := ∃ r v, look mem m = some r ∧ r.live = true ∧ μ m = some v ∧ b ∈ blks v

structure Wp (F : Fr) (w : World) (S : Nat → Prop) (μ : Mu) (mem : List (Nat × Res)) : Prop where
  grow : Grow F w
  Sb : ∀ b, S b → b < w.heap.size
  Sn : ∀ b, S b → F.S b ∨ F.w.heap.size ≤ b ∨ F.st b
  Sf : ∀ b, F.S b → S b
  res : ∀ m r, look mem m = some r → repRes w S μ m r
  sep : ∀ m b, Owns μ mem m b → ¬ S b ∧ (F.w.heap.size ≤ b ∨ F.st b)
  dis : ∀ m m' b, Owns μ mem m b → Owns μ mem m' b → m = m'

theorem ownsRow_blks {w : World} {e sz n : Nat} {v : Value} {xs : List Value} (h : w.ownsRow 0 e sz v n xs) (b : Nat) : b ∈ blks v ↔ v.ownBlock = some b := by
  rcases h.2 with ⟨rfl, _⟩ | ⟨g, cap, cur, rfl, _⟩
  · simp [blks, Value.ownBlock]
  · simp [blks, Value.ownBlock, eq_comm]

theorem ownsRow_blk {w : World} {e sz n : Nat} {v : Value} {xs : List Value} (h : w.ownsRow 0 e sz v n xs) (b : Nat) (hb : b ∈ blks v) : v.ownBlock = some b ∧ b < w.heap.size := by
  have hv := (ownsRow_blks h b).1 hb
  exact ⟨hv, (h.lt b hv).2⟩

/-- What a group's row holds, the group owns. -/
theorem grp_blks {w : World} {e sz n : Nat} {l : List (List Int × Value)} {k : List Int} {xs : List Value} (h : w.ownsRow 0 e sz (valAt l k) n xs) {b : Nat} (hb : (valAt l k).ownBlock = some b) : b ∈ blks (encG l) := by
  rcases h.2 with ⟨hv, _⟩ | ⟨g, cap, cur, hv, _⟩
  · rw [hv] at hb
    simp [Value.ownBlock] at hb
  · rw [hv] at hb
    simp only [Value.ownBlock, Option.some.injEq] at hb
    subst hb
    exact valAt_blks hv

theorem valAt_mem : ∀ {l : List (List Int × Value)} {k : List Int} {v : Value}, (l.map (·.1)).Nodup → (k, v) ∈ l → valAt l k = v
  | [], _, _, _, hp => by cases hp
  | (k', v') :: l, k, v, hn, hp => by
    simp only [List.map_cons, List.nodup_cons] at hn
    simp only [valAt]
    rcases List.mem_cons.1 hp with e | hp
    · injection e with e1 e2
      subst e1 e2
      rw [if_pos rfl]
    · rw [if_neg]
      · exact valAt_mem hn.2 hp
      · rintro rfl
        exact hn.1 (List.mem_map.2 ⟨_, hp, rfl⟩)

/-- .. and each block of a group is some row's. -/
theorem blks_grp {l : List (List Int × Value)} {b : Nat} (hn : (l.map (·.1)).Nodup) (hb : b ∈ blks (encG l)) : ∃ k a n c, valAt l k = .slice (some a) n c ∧ a.block = b := by
  unfold encG blks at hb
  simp only [List.mem_filterMap] at hb
  obtain ⟨x, hx, e⟩ := hb
  simp only [List.mem_map] at hx
  obtain ⟨⟨k, v⟩, hp, rfl⟩ := hx
  simp only [blk1] at e
  split at e
  · rename_i a n c _ hv
    injection e with e
    simp only [List.cons.injEq] at hv
    obtain ⟨hv, _⟩ := hv
    refine ⟨k, a, n, c, ?_, e⟩
    rw [← hv]
    exact valAt_mem hn hp
  · cases e

theorem Wp.owns_lt {F : Fr} {w : World} {S : Nat → Prop} {μ : Mu} {mem : List (Nat × Res)} (h : Wp F w S μ mem) {m b : Nat} (ho : Owns μ mem m b) : b < w.heap.size := by
  obtain ⟨r, v, hl, hr, hv, hb⟩ := ho
  have := h.res m r hl
  cases r with
  | box ty cells =>
    obtain ⟨b', us, hm, hh, _⟩ := this
    rw [hm] at hv
    injection hv with hv
    subst hv
    simp [blks] at hb
    subst hb
    exact (Array.getElem?_eq_some_iff.1 hh).1
  | row e sz n get =>
    obtain ⟨v', xs, hm, hown, _⟩ := this
    rw [hm] at hv
    injection hv with hv
    subst hv
    exact (ownsRow_blk hown b hb).2
  | frz n sz get => simp [Res.live] at hr
  | dead => simp [Res.live] at hr
  | mapI n q a =>
    obtain ⟨r, hm, hh, _⟩ := this
    rw [hm] at hv
    injection hv with hv
    subst hv
    simp [blks] at hb
    subst hb
    exact (Array.getElem?_eq_some_iff.1 hh).1
  | mapR n g hole a =>
    obtain ⟨r, l, xs, hm, _, hh, _⟩ := this
    rw [hm] at hv
    injection hv with hv
    subst hv
    simp [blks] at hb
    subst hb
    exact (Array.getElem?_eq_some_iff.1 hh).1
  | grp e sz f =>
    obtain ⟨l, hn, hm, h1, _⟩ := this
    rw [hm] at hv
    injection hv with hv
    subst hv
    obtain ⟨k, a, n, c, hk, rfl⟩ := blks_grp hn hb
    obtain ⟨xs, hown, _⟩ := h1 k
    rw [hk] at hown
    exact (ownsRow_blk hown a.block (by simp [blks])).2
  | rowR e g n hole =>
    obtain ⟨v', l, xs, hm, _, hown, _⟩ := this
    rw [hm] at hv
    injection hv with hv
    subst hv
    exact (ownsRow_blk hown b hb).2
  | iter m' since seen last =>
    obtain ⟨b', r, hm, _, hh⟩ := this
    rw [hm] at hv
    injection hv with hv
    subst hv
    simp [blks] at hb
    subst hb
    exact (Array.getElem?_eq_some_iff.1 hh).1

theorem ownsRow_move {w w' : World} {e sz n : Nat} {v : Value} {xs : List Value} (h : w.ownsRow 0 e sz v n xs) (hm : ∀ b, v.ownBlock = some b → w'.heap[b]? = w.heap[b]?) : w'.ownsRow 0 e sz v n xs := by
  obtain ⟨h1, h2⟩ := h
  refine ⟨h1, ?_⟩
  rcases h2 with h2 | ⟨g, cap, cur, rfl, hg, hh, r⟩
  · exact .inl h2
  · exact .inr ⟨g, cap, cur, rfl, hg, (hm g (by simp [Value.ownBlock])).trans hh, r⟩

theorem repRes_move {w w' : World} {S S' : Nat → Prop} {μ μ' : Mu} (k : Kp w w' S S' μ μ') {m : Nat} {r : Res} (h : repRes w S μ m r)
    (hm : ∀ v b, r.live = true → μ m = some v → b ∈ blks v → w'.heap[b]? = w.heap[b]?) : repRes w' S' μ' m r := by
  cases r with
  | box ty cells =>
    obtain ⟨b, us, h1, h2, h3⟩ := h
    exact ⟨b, us, k.mu _ _ h1, (hm _ b rfl h1 (by simp [blks])).trans h2, k.acs _ _ h3⟩
  | row e sz n get =>
    obtain ⟨v, xs, h1, h2, h3⟩ := h
    refine ⟨v, xs, k.mu _ _ h1, ownsRow_move h2 (fun b hb => hm v b rfl h1 ((ownsRow_blks h2 b).2 hb)), fun i hi j hj => ?_⟩
    obtain ⟨x, hx, hr⟩ := h3 i hi j hj
    exact ⟨x, hx, rep_keep k.sub k.wd _ _ hr⟩
  | frz n sz get =>
    obtain ⟨v, h1, h2⟩ := h
    exact ⟨v, k.mu _ _ h1, rep_keep k.sub k.wd _ _ h2⟩
  | dead => trivial
  | mapI n q a =>
    obtain ⟨r, h1, h2, h3⟩ := h
    exact ⟨r, k.mu _ _ h1, (hm _ r rfl h1 (by simp [blks])).trans h2, h3⟩
  | mapR n g hole a =>
    obtain ⟨r, l, xs, h1, h2, h3, ⟨l', h4, h5⟩, h6⟩ := h
    exact ⟨r, l, xs, k.mu _ _ h1, k.mu _ _ h2, (hm _ r rfl h1 (by simp [blks])).trans h3, ⟨l', holeL_mono k.mu h4, h5⟩, h6⟩
  | grp e sz f =>
    obtain ⟨l, hn, h1, h2, h3⟩ := h
    refine ⟨l, hn, k.mu _ _ h1, fun key => ?_, h3⟩
    obtain ⟨xs, hown, hx⟩ := h2 key
    refine ⟨xs, ownsRow_move hown (fun b hb => hm _ b rfl h1 (grp_blks hown hb)), fun i hi j hj => ?_⟩
    obtain ⟨x, hx, hr⟩ := hx i hi j hj
    exact ⟨x, hx, rep_keep k.sub k.wd _ _ hr⟩
  | rowR e g n hole =>
    obtain ⟨v, l, xs, h1, h2, h3, l', h4, h5⟩ := h
    exact ⟨v, l, xs, k.mu _ _ h1, k.mu _ _ h2, ownsRow_move h3 (fun b hb => hm v b rfl h1 ((ownsRow_blks h3 b).2 hb)), l', holeL_mono k.mu h4, h5⟩
  | iter m' since seen last =>
    obtain ⟨b, r, h1, h2, h3⟩ := h
    exact ⟨b, r, k.mu _ _ h1, k.mu _ _ h2, (hm _ b rfl h1 (by simp [blks])).trans h3⟩

/-- A live name stands for something, and for the same later. -/
theorem Wp.mu_some {F : Fr} {w : World} {S : Nat → Prop} {μ : Mu} {mem : List (Nat × Res)} (h : Wp F w S μ mem) {m : Nat} {r : Res} (hl : look mem m = some r) (hr : r.live = true) : ∃ v, μ m = some v := by
  have := h.res m r hl
  cases r with
  | box ty cells => obtain ⟨b, us, hm, _⟩ := this; exact ⟨_, hm⟩
  | row e sz n get => obtain ⟨v, xs, hm, _⟩ := this; exact ⟨_, hm⟩
  | frz n sz get => simp [Res.live] at hr
  | dead => simp [Res.live] at hr
  | mapI n q a => obtain ⟨r, hm, _⟩ := this; exact ⟨_, hm⟩
  | mapR n g hole a => obtain ⟨r, l, xs, hm, _⟩ := this; exact ⟨_, hm⟩
  | grp e sz f => obtain ⟨l, _, hm, _⟩ := this; exact ⟨_, hm⟩
  | rowR e g n hole => obtain ⟨v, l, xs, hm, _⟩ := this; exact ⟨_, hm⟩
  | iter m' since seen last => obtain ⟨b, r, hm, _⟩ := this; exact ⟨_, hm⟩

/-- Every change of the world that the logic knows of. ch: elder blocks that change; D: names that are told anew. -/
theorem Wp.upd {F : Fr} {w w' : World} {S S' : Nat → Prop} {μ μ' : Mu} {mem mem' : List (Nat × Res)} (ch D : Nat → Prop)
    (h : Wp F w S μ mem) (k : Kp w w' S S' μ μ') (ho : w'.os = w.os) (ht : w'.tape = w.tape) (hu : w'.output = w.output) (hz : w.heap.size ≤ w'.heap.size)
    (hch : ∀ b, b < w.heap.size → ¬ ch b → w'.heap[b]? = w.heap[b]?) (hcF : ∀ b, ch b → F.w.heap.size ≤ b ∨ F.st b) (hS : ∀ b, S' b → b < w'.heap.size) (hSn : ∀ b, S' b → S b ∨ F.w.heap.size ≤ b ∨ F.st b)
    (hold : ∀ m, ¬ D m → look mem' m = look mem m)
    (hkeep : ∀ m b, ¬ D m → Owns μ mem m b → ¬ ch b ∧ ¬ S' b)
    (hres : ∀ m r, D m → look mem' m = some r → repRes w' S' μ' m r)
    (hsep : ∀ m b, D m → Owns μ' mem' m b → ¬ S' b ∧ (F.w.heap.size ≤ b ∨ F.st b))
    (hdis1 : ∀ m m' b, D m → D m' → Owns μ' mem' m b → Owns μ' mem' m' b → m = m')
    (hdis2 : ∀ m m' b, D m → ¬ D m' → Owns μ' mem' m b → ¬ Owns μ mem m' b) : Wp F w' S' μ' mem' := by
  have back : ∀ m b, ¬ D m → Owns μ' mem' m b → Owns μ mem m b := by
    rintro m b hD ⟨r, v, hl, hr, hv, hb⟩
    rw [hold m hD] at hl
    obtain ⟨v', hv'⟩ := h.mu_some hl hr
    have := k.mu _ _ hv'
    rw [this] at hv
    injection hv with hv
    subst hv
    exact ⟨r, v', hl, hr, hv', hb⟩
  refine ⟨⟨ho.trans h.grow.os, ht.trans h.grow.tape, hu.trans h.grow.output, Nat.le_trans h.grow.size hz, fun b hb hs => ?_⟩, hS, fun b hb => ?_, fun b hb => k.sub b (h.Sf b hb), fun m r hl => ?_, fun m b hO => ?_, fun m m' b hO hO' => ?_⟩
  · by_cases hc : ch b
    · rcases hcF b hc with h1 | h1
      · omega
      · exact absurd h1 hs
    · exact (hch b (Nat.lt_of_lt_of_le hb h.grow.size) hc).trans (h.grow.block b hb hs)
  · rcases hSn b hb with h1 | h1
    · exact h.Sn b h1
    · exact .inr h1
  · by_cases hD : D m
    · exact hres m r hD hl
    · rw [hold m hD] at hl
      refine repRes_move k (h.res m r hl) (fun v b hr hv hb => ?_)
      have hO : Owns μ mem m b := ⟨r, v, hl, hr, hv, hb⟩
      exact hch b (h.owns_lt hO) (hkeep m b hD hO).1
  · by_cases hD : D m
    · exact hsep m b hD hO
    · have hO' := back m b hD hO
      exact ⟨(hkeep m b hD hO').2, (h.sep m b hO').2⟩
  · by_cases hD : D m
    · by_cases hD' : D m'
      · exact hdis1 m m' b hD hD' hO hO'
      · exact absurd (back m' b hD' hO') (hdis2 m m' b hD hD' hO)
    · by_cases hD' : D m'
      · exact absurd (back m b hD hO) (hdis2 m' m b hD' hD hO')
      · exact h.dis m m' b (back m b hD hO) (back m' b hD' hO')

def repEnv (w : World) (S : Nat → Prop) (μ : Mu) (env : List (Nat × AV)) (tmps : Array Value) : Prop :=
  ∀ i v, look env i = some v → repAV w S μ v (tmps.getD i undef)

/-- The state s tells of the act and the world. U: names not in use. -/
structure Rel (F : Fr) (N : Nat) (U : Nat → Prop) (s : St) (a : Act) (w : World) : Prop where
  defers : a.defers = []
  size : a.tmps.size = N
  hk : ∀ j, F.k ≤ j → F.mu j = none
  ex : ∃ S μ, Wp F w S μ s.mem ∧ repEnv w S μ s.env a.tmps ∧ (∀ m, U m → μ m = none) ∧ ∀ j v, F.mu j = some v → μ j = some v

end Go.Eng

/- A program logic over abstract states, part B: the steps of the world: a new block, a store, an append, memory that settles. -/
namespace Go.Eng
open Go

def setμ (μ : Mu) (d : Nat) (v : Value) : Mu := fun m => if m = d then some v else μ m
theorem setμ_same (μ : Mu) (d : Nat) (v : Value) : setμ μ d v d = some v := if_pos rfl
theorem setμ_ne (μ : Mu) {d m : Nat} (v : Value) (h : m ≠ d) : setμ μ d v m = μ m := if_neg h
theorem setμ_mono {μ : Mu} {d : Nat} (hd : μ d = none) (v : Value) : ∀ m u, μ m = some u → setμ μ d v m = some u := by
  intro m u h
  rw [setμ_ne]
  · exact h
  · rintro rfl
    rw [hd] at h
    cases h

section
variable {F : Fr} {w : World} {S : Nat → Prop} {μ : Mu} {mem : List (Nat × Res)}

theorem Kp.alloc (hS : ∀ b, S b → b < w.heap.size) {d : Nat} (hd : μ d = none) (o : Obj) (v : Value) : Kp w (w.alloc o) S S μ (setμ μ d v) :=
  ⟨fun _ h => h, fun b h => heap_alloc_old w o b (hS b h), setμ_mono hd v⟩

theorem owns_cons_same {d b : Nat} {r : Res} {v : Value} (h : Owns (setμ μ d v) ((d, r) :: mem) d b) : r.live = true ∧ b ∈ blks v := by
  obtain ⟨r', v', hl, hr, hv, hb⟩ := h
  rw [look_cons, if_pos rfl] at hl
  rw [setμ_same] at hv
  injection hl with hl
  injection hv with hv
  subst hl hv
  exact ⟨hr, hb⟩

/-- A new block. -/
theorem Wp.new (h : Wp F w S μ mem) {d : Nat} (hd : μ d = none) (o : Obj) (v : Value) (r : Res) (hv : ∀ b, b ∈ blks v → b = w.heap.size)
    (hres : repRes (w.alloc o) S (setμ μ d v) d r) : Wp F (w.alloc o) S (setμ μ d v) ((d, r) :: mem) := by
  refine Wp.upd (fun _ => False) (fun m => m = d) h (Kp.alloc h.Sb hd _ v) rfl rfl rfl ?_ ?_ ?_ ?_ (fun _ hb => .inl hb) ?_ ?_ ?_ ?_ ?_ ?_
  · simp
  · intro b hb _; exact heap_alloc_old w _ b hb
  · intro b hb; exact hb.elim
  · intro b hb
    have := h.Sb b hb
    simp
    omega
  · intro m hm; rw [look_cons, if_neg (fun e => hm e.symm)]
  · intro m b _ hO; exact ⟨id, (h.sep m b hO).1⟩
  · rintro m r' rfl hl
    rw [look_cons, if_pos rfl] at hl
    injection hl with hl
    subst hl
    exact hres
  · rintro m b rfl hO
    obtain ⟨_, hb⟩ := owns_cons_same hO
    obtain rfl := hv b hb
    exact ⟨fun hs => absurd (h.Sb _ hs) (by omega), .inl h.grow.size⟩
  · rintro m m' b rfl rfl _ _; rfl
  · rintro m m' b rfl _ hO hO'
    obtain ⟨_, hb⟩ := owns_cons_same hO
    obtain rfl := hv b hb
    exact absurd (h.owns_lt hO') (by omega)

theorem Wp.newBox (h : Wp F w S μ mem) {d : Nat} (hd : μ d = none) {cells : List AC} {us : List Value} (hc : reps w S μ cells us) (ty : Nat) :
    Wp F (w.alloc (.cells us.toArray ty)) S (setμ μ d (.pointer (some ⟨w.heap.size, 0, none⟩))) ((d, .box ty cells) :: mem) :=
  h.new hd _ _ _ (by intro b hb; simpa [blks] using hb)
    ⟨w.heap.size, us, setμ_same _ _ _, heap_alloc_new w _, (Kp.alloc h.Sb hd _ _).acs _ _ hc⟩

theorem Wp.newRow (h : Wp F w S μ mem) {d : Nat} (hd : μ d = none) {e sz n : Nat} {get : Nat → Nat → Cell} {xs : List Value} (hl : xs.length = n * sz) (hn : n ≤ maxLen)
    (hx : ∀ i, i < n → ∀ j, j < sz → ∃ x, xs[i * sz + j]? = some x ∧ rep w S (get i j) x) :
    Wp F (w.alloc (.cells xs.toArray e)) S (setμ μ d (.slice (some ⟨w.heap.size, 0, none⟩) n n)) ((d, .row e sz n get) :: mem) := by
  have k := Kp.alloc h.Sb hd (.cells xs.toArray e) (.slice (some ⟨w.heap.size, 0, none⟩) n n)
  refine h.new hd _ _ _ (by intro b hb; simpa [blks] using hb) ⟨_, xs, setμ_same _ _ _, ⟨hl, .inr ⟨w.heap.size, n, xs.toArray, rfl, Nat.zero_le _, heap_alloc_new w _, Nat.le_refl _, hn, by simpa using hl, ?_⟩⟩, fun i hi j hj => ?_⟩
  · rw [← hl]; simp
  · obtain ⟨x, h1, h2⟩ := hx i hi j hj
    exact ⟨x, h1, rep_keep k.sub k.wd _ _ h2⟩

/-- A write into a block that the name m owns; m is told anew. -/
theorem Wp.writeG (h : Wp F w S μ mem) {m b : Nat} (hO : Owns μ mem m b) {w' : World} (ho : w'.os = w.os) (ht : w'.tape = w.tape) (hu : w'.output = w.output) (hz : w'.heap.size = w.heap.size) (hh : ∀ b', b' ≠ b → w'.heap[b']? = w.heap[b']?) (r : Res)
    (hk : ∀ v, μ m = some v → ∀ b', b' ∈ blks v → Owns μ mem m b')
    (hres : repRes w' S μ m r) : Wp F w' S μ ((m, r) :: mem) := by
  have hs := h.sep m b hO
  have k : Kp w w' S S μ μ := ⟨fun _ h => h, fun b' hb' => hh b' (by rintro rfl; exact hs.1 hb'), fun _ _ h => h⟩
  refine Wp.upd (fun b' => b' = b) (fun m' => m' = m) h k ho ht hu ?_ ?_ ?_ ?_ (fun _ hb => .inl hb) ?_ ?_ ?_ ?_ ?_ ?_
  · rw [hz]; exact Nat.le_refl _
  · intro b' _ hc; exact hh b' hc
  · rintro b' rfl; exact hs.2
  · intro b' hb'; rw [hz]; exact h.Sb b' hb'
  · intro m' hm; rw [look_cons, if_neg (fun e => hm e.symm)]
  · intro m' b' hm hO'
    refine ⟨?_, (h.sep m' b' hO').1⟩
    rintro rfl
    exact hm (h.dis _ _ _ hO' hO)
  · rintro m' r' rfl hl
    rw [look_cons, if_pos rfl] at hl
    injection hl with hl
    subst hl
    exact hres
  · rintro m' b' rfl ⟨r', v, _, _, hv, hb'⟩
    exact h.sep _ b' (hk v hv b' hb')
  · rintro m' m'' b' rfl rfl _ _; rfl
  · rintro m' m'' b' rfl hne ⟨r', v, _, _, hv, hb'⟩ hO'
    exact hne (h.dis _ _ _ hO' (hk v hv b' hb'))

theorem Wp.write (h : Wp F w S μ mem) {m b : Nat} (hO : Owns μ mem m b) (cs : Array Value) (r : Res)
    (hk : ∀ v, μ m = some v → ∀ b', b' ∈ blks v → Owns μ mem m b')
    (hres : repRes (w.setRow b cs) S μ m r) : Wp F (w.setRow b cs) S μ ((m, r) :: mem) :=
  h.writeG (w' := w.setRow b cs) hO rfl rfl rfl (size_setRow ..) (fun b' hb' => setRow_other w b b' cs hb') r hk hres

/-- A draw. -/
theorem Wp.heap (h : Wp F w S μ mem) {w' : World} (hh : w'.heap = w.heap) (ho : w'.os = w.os) (ht : w'.tape = w.tape) (hu : w'.output = w.output) : Wp F w' S μ mem := by
  have k : Kp w w' S S μ μ := ⟨fun _ h => h, fun b _ => by rw [hh], fun _ _ h => h⟩
  refine Wp.upd (fun _ => False) (fun _ => False) h k ho ht hu (by rw [hh]; exact Nat.le_refl _) (fun b _ _ => by rw [hh]) (fun _ hb => hb.elim) (fun b hb => by rw [hh]; exact h.Sb b hb) (fun _ hb => .inl hb) (fun _ _ => rfl) ?_ ?_ ?_ ?_ ?_
  · intro m b _ hO; exact ⟨id, (h.sep m b hO).1⟩
  all_goals intros; contradiction

/-- Memory settles: the row that m owns is read from now on. -/
theorem Wp.freeze (h : Wp F w S μ mem) {m e sz n : Nat} {get : Nat → Nat → Cell} (hl : look mem m = some (.row e sz n get)) :
    ∃ S', (∀ b, S b → S' b) ∧ Wp F w S' μ ((m, .frz n sz get) :: mem) := by
  obtain ⟨v, xs, hv, hown, hx⟩ := h.res m _ hl
  let S' : Nat → Prop := fun b => S b ∨ b ∈ blks v
  have hsub : ∀ b, S b → S' b := fun b hb => .inl hb
  have hO : ∀ b, b ∈ blks v → Owns μ mem m b := fun b hb => ⟨_, v, hl, rfl, hv, hb⟩
  have k : Kp w w S S' μ μ := ⟨hsub, fun _ _ => rfl, fun _ _ h => h⟩
  refine ⟨S', hsub, Wp.upd (fun _ => False) (fun m' => m' = m) h k rfl rfl rfl (Nat.le_refl _) (fun _ _ _ => rfl) (fun _ hb => hb.elim) ?_ ?_ ?_ ?_ ?_ ?_ ?_ ?_⟩
  · intro b hb
    rcases hb with hb | hb
    · exact h.Sb b hb
    · exact h.owns_lt (hO b hb)
  · intro b hb
    rcases hb with hb | hb
    · exact .inl hb
    · exact .inr (h.sep m b (hO b hb)).2
  · intro m' hm; rw [look_cons, if_neg (fun e => hm e.symm)]
  · intro m' b hm hO'
    refine ⟨id, ?_⟩
    rintro (hb | hb)
    · exact (h.sep m' b hO').1 hb
    · exact hm (h.dis _ _ _ hO' (hO b hb))
  · rintro m' r' rfl hl'
    rw [look_cons, if_pos rfl] at hl'
    injection hl' with hl'
    subst hl'
    refine ⟨v, hv, ?_⟩
    rcases hown.2 with ⟨rfl, rfl⟩ | ⟨g, cap, cur, rfl, _, hh, hnc, hcm, hcs, htake⟩
    · exact ⟨none, 0, rfl, Nat.le_refl _, Nat.zero_le _, fun hn => absurd hn (by omega)⟩
    · refine ⟨some ⟨g, 0, none⟩, cap, rfl, hnc, hcm, fun _ => ⟨g, 0, rfl, .inr (by simp [blks]), fun i hi j hj => ?_⟩⟩
      obtain ⟨x, h1, h2⟩ := hx i hi j hj
      refine ⟨x, ?_, rep_keep hsub (fun _ _ => rfl) _ _ h2⟩
      have hc := hown.cells (g := g) rfl (i * sz + j) x h1
      have hadd : (⟨g, 0, none⟩ : Addr).add (i * sz + j) = ⟨g, 0 + i * sz + j, none⟩ := by unfold Addr.add; split <;> simp_all
      rw [hadd] at hc
      exact hc
  · rintro m' b rfl ⟨r', v', hl', hr, _⟩
    rw [look_cons, if_pos rfl] at hl'
    injection hl' with hl'
    subst hl'
    simp [Res.live] at hr
  · rintro m' m'' b rfl rfl _ _; rfl
  · rintro m' m'' b rfl _ ⟨r', v', hl', hr, _⟩
    rw [look_cons, if_pos rfl] at hl'
    injection hl' with hl'
    subst hl'
    simp [Res.live] at hr

/-- A row that the call owns reads as a settled slice once its block settles. -/
theorem ownsRow_rep {w : World} {S S' : Nat → Prop} {e sz n : Nat} {v : Value} {xs : List Value} {get : Nat → Nat → Cell} (hown : w.ownsRow 0 e sz v n xs) (hx : ∀ i, i < n → ∀ j, j < sz → ∃ x, xs[i * sz + j]? = some x ∧ rep w S (get i j) x)
    (hsub : ∀ b, S b → S' b) (hb : ∀ b, v.ownBlock = some b → S' b) : rep w S' (.sl n sz get) v := by
  have hown' := hown
  rcases hown'.2 with ⟨rfl, rfl⟩ | ⟨g, cap, cur, rfl, _, hh, hnc, hcm, hcs, htake⟩
  · exact ⟨none, 0, rfl, Nat.le_refl _, Nat.zero_le _, fun hn => absurd hn (by omega)⟩
  · refine ⟨some ⟨g, 0, none⟩, cap, rfl, hnc, hcm, fun _ => ⟨g, 0, rfl, hb g rfl, fun i hi j hj => ?_⟩⟩
    obtain ⟨x, h1, h2⟩ := hx i hi j hj
    refine ⟨x, ?_, rep_keep hsub (fun _ _ => rfl) _ _ h2⟩
    have hc := hown.cells (g := g) rfl (i * sz + j) x h1
    have hadd : (⟨g, 0, none⟩ : Addr).add (i * sz + j) = ⟨g, 0 + i * sz + j, none⟩ := by unfold Addr.add; split <;> simp_all
    rw [hadd] at hc
    exact hc

/-- The rows of a group settle. -/
theorem Wp.freezeG (h : Wp F w S μ mem) {g e sz : Nat} {f : List Int → Nat × (Nat → Nat → Cell)} (hl : look mem g = some (.grp e sz f)) :
    ∃ S', (∀ b, S b → S' b) ∧ Wp F w S' μ ((g, .dead) :: mem) ∧ ∀ l k, μ g = some (encG l) → rep w S' (.sl (f k).1 sz (f k).2) (valAt l k) := by
  obtain ⟨l, hn, hv, hrow, hdist⟩ := h.res g _ hl
  let S' : Nat → Prop := fun b => S b ∨ b ∈ blks (encG l)
  have hsub : ∀ b, S b → S' b := fun b hb => .inl hb
  have hO : ∀ b, b ∈ blks (encG l) → Owns μ mem g b := fun b hb => ⟨_, _, hl, rfl, hv, hb⟩
  have k : Kp w w S S' μ μ := ⟨hsub, fun _ _ => rfl, fun _ _ h => h⟩
  refine ⟨S', hsub, Wp.upd (fun _ => False) (fun m' => m' = g) h k rfl rfl rfl (Nat.le_refl _) (fun _ _ _ => rfl) (fun _ hb => hb.elim) ?_ ?_ ?_ ?_ ?_ ?_ ?_ ?_, fun l' key hl' => ?_⟩
  · intro b hb
    rcases hb with hb | hb
    · exact h.Sb b hb
    · exact h.owns_lt (hO b hb)
  · intro b hb
    rcases hb with hb | hb
    · exact .inl hb
    · exact .inr (h.sep g b (hO b hb)).2
  · intro m' hm; rw [look_cons, if_neg (fun e => hm e.symm)]
  · intro m' b hm hO'
    refine ⟨id, ?_⟩
    rintro (hb | hb)
    · exact (h.sep m' b hO').1 hb
    · exact hm (h.dis _ _ _ hO' (hO b hb))
  · rintro m' r' rfl hl'
    rw [look_cons, if_pos rfl] at hl'
    injection hl' with hl'
    subst hl'
    trivial
  · rintro m' b rfl ⟨r', v', hl', hr, _⟩
    rw [look_cons, if_pos rfl] at hl'
    injection hl' with hl'
    subst hl'
    simp [Res.live] at hr
  · rintro m' m'' b rfl rfl _ _; rfl
  · rintro m' m'' b rfl _ ⟨r', v', hl', hr, _⟩
    rw [look_cons, if_pos rfl] at hl'
    injection hl' with hl'
    subst hl'
    simp [Res.live] at hr
  · rw [hv] at hl'
    injection hl' with hl'
    obtain rfl := encG_inj hl'
    obtain ⟨xs, hown, hx⟩ := hrow key
    exact ownsRow_rep hown hx hsub (fun b hb => .inr (grp_blks hown hb))

/-- A name is given up. -/
theorem Wp.drop (h : Wp F w S μ mem) (m : Nat) : Wp F w S μ ((m, .dead) :: mem) := by
  refine Wp.upd (fun _ => False) (fun m' => m' = m) h (Kp.refl _ _ _) rfl rfl rfl (Nat.le_refl _) (fun _ _ _ => rfl) (fun _ hb => hb.elim) h.Sb (fun _ hb => .inl hb) ?_ ?_ ?_ ?_ ?_ ?_
  · intro m' hm; rw [look_cons, if_neg (fun e => hm e.symm)]
  · intro m' b _ hO; exact ⟨id, (h.sep m' b hO).1⟩
  · rintro m' r' rfl hl
    rw [look_cons, if_pos rfl] at hl
    injection hl with hl
    subst hl
    trivial
  · rintro m' b rfl ⟨r', v', hl', hr, _⟩
    rw [look_cons, if_pos rfl] at hl'
    injection hl' with hl'
    subst hl'
    simp [Res.live] at hr
  · rintro m' m'' b rfl rfl _ _; rfl
  · rintro m' m'' b rfl _ ⟨r', v', hl', hr, _⟩
    rw [look_cons, if_pos rfl] at hl'
    injection hl' with hl'
    subst hl'
    simp [Res.live] at hr

/-- Behind an append: the old row m has gone into the new one, d. -/
theorem Wp.appended (h : Wp F w S μ mem) {w' : World} {m d : Nat} {e sz n n' : Nat} {get get' : Nat → Nat → Cell} {v v' : Value} {xs : List Value} (hd : μ d = none)
    (hl : look mem m = some (.row e sz n get)) (hv : μ m = some v) (hg : w.grownBy w' v.ownBlock) (hown : w'.ownsRow 0 e sz v' n' xs)
    (hx : ∀ i, i < n' → ∀ j, j < sz → ∃ x, xs[i * sz + j]? = some x ∧ rep w S (get' i j) x)
    (hloc : v'.ownBlock = v.ownBlock ∨ v'.ownBlock = some w.heap.size) :
    Wp F w' S (setμ μ d v') ((d, .row e sz n' get') :: (m, .dead) :: mem) ∧ Kp w w' S S μ (setμ μ d v') := by
  obtain ⟨v0, xs0, hv0, hown0, _⟩ := h.res m _ hl
  rw [hv] at hv0
  injection hv0 with hv0
  subst hv0
  have hO : ∀ b, v.ownBlock = some b → Owns μ mem m b := fun b hb => ⟨_, v, hl, rfl, hv, (ownsRow_blks hown0 b).2 hb⟩
  have hbS : ∀ b, S b → some b ≠ v.ownBlock := fun b hb e => (h.sep m b (hO b e.symm)).1 hb
  have k : Kp w w' S S μ (setμ μ d v') := ⟨fun _ h => h, fun b hb => hg.block b (h.Sb b hb) (hbS b hb), setμ_mono hd v'⟩
  have hmd : m ≠ d := by
    rintro rfl
    rw [hd] at hv
    cases hv
  refine ⟨Wp.upd (fun b => v.ownBlock = some b) (fun m' => m' = d ∨ m' = m) h k hg.os hg.tape hg.output hg.size ?_ ?_ ?_ (fun _ hb => .inl hb) ?_ ?_ ?_ ?_ ?_ ?_, k⟩
  · intro b hb hc; exact hg.block b hb (fun e => hc e.symm)
  · intro b hb; exact (h.sep m b (hO b hb)).2
  · intro b hb; exact Nat.lt_of_lt_of_le (h.Sb b hb) hg.size
  · intro m' hm
    rw [look_cons, if_neg (fun e => hm (.inl e.symm)), look_cons, if_neg (fun e => hm (.inr e.symm))]
  · intro m' b hm hO'
    refine ⟨fun e => hm (.inr (h.dis _ _ _ hO' (hO b e))), (h.sep m' b hO').1⟩
  · intro m' r' hD hl'
    by_cases hmd' : m' = d
    · subst hmd'
      rw [look_cons, if_pos rfl] at hl'
      injection hl' with hl'
      subst hl'
      refine ⟨v', xs, setμ_same _ _ _, hown, fun i hi j hj => ?_⟩
      obtain ⟨x, h1, h2⟩ := hx i hi j hj
      exact ⟨x, h1, rep_keep k.sub k.wd _ _ h2⟩
    · obtain rfl := hD.resolve_left hmd'
      rw [look_cons, if_neg (fun e => hmd' e.symm), look_cons, if_pos rfl] at hl'
      injection hl' with hl'
      subst hl'
      trivial
  · have key : ∀ b, Owns (setμ μ d v') ((d, .row e sz n' get') :: (m, .dead) :: mem) d b → v'.ownBlock = some b := by
      intro b hb
      obtain ⟨_, hb⟩ := owns_cons_same hb
      exact (ownsRow_blk hown b hb).1
    intro m' b hD hO'
    by_cases hmd' : m' = d
    · subst hmd'
      have hb := key b hO'
      rcases hloc with hc | hc
      · rw [hb] at hc
        exact h.sep m b (hO b hc.symm)
      · rw [hb] at hc
        injection hc with hc
        subst hc
        exact ⟨fun hs => absurd (h.Sb _ hs) (by omega), .inl h.grow.size⟩
    · obtain rfl := hD.resolve_left hmd'
      obtain ⟨r', v2, hl', hr, _⟩ := hO'
      rw [look_cons, if_neg (fun e => hmd' e.symm), look_cons, if_pos rfl] at hl'
      injection hl' with hl'
      subst hl'
      simp [Res.live] at hr
  · have dead : ∀ b, ¬ Owns (setμ μ d v') ((d, .row e sz n' get') :: (m, .dead) :: mem) m b := by
      rintro b ⟨r', v2, hl', hr, _⟩
      rw [look_cons, if_neg (fun e => hmd e.symm), look_cons, if_pos rfl] at hl'
      injection hl' with hl'
      subst hl'
      simp [Res.live] at hr
    rintro m' m'' b (rfl | rfl) (rfl | rfl) hO' hO''
    · rfl
    · exact absurd hO'' (dead b)
    · exact absurd hO' (dead b)
    · rfl
  · have dead : ∀ b, ¬ Owns (setμ μ d v') ((d, .row e sz n' get') :: (m, .dead) :: mem) m b := by
      rintro b ⟨r', v2, hl', hr, _⟩
      rw [look_cons, if_neg (fun e => hmd e.symm), look_cons, if_pos rfl] at hl'
      injection hl' with hl'
      subst hl'
      simp [Res.live] at hr
    rintro m' m'' b (rfl | rfl) hne hO' hO''
    · obtain ⟨_, hb⟩ := owns_cons_same hO'
      have hb := (ownsRow_blk hown b hb).1
      rcases hloc with hc | hc
      · rw [hb] at hc
        exact hne (.inr (h.dis _ _ _ hO'' (hO b hc.symm)))
      · rw [hb] at hc
        injection hc with hc
        subst hc
        exact absurd (h.owns_lt hO'') (by omega)
    · exact absurd hO' (dead b)
end

theorem put_getD (tm : Array Value) (d i : Nat) (u : Value) (hd : d < tm.size) : (tm.setIfInBounds d u).getD i undef = if d = i then u else tm.getD i undef := by
  simp only [Array.getD_eq_getD_getElem?, Array.getElem?_setIfInBounds]
  by_cases h : d = i
  · subst h; simp [hd]
  · simp [h]

theorem repEnv_put {w w' : World} {S S' : Nat → Prop} {μ μ' : Mu} {env : List (Nat × AV)} {tm : Array Value} (k : Kp w w' S S' μ μ') (h : repEnv w S μ env tm) {d : Nat} {v : AV} {u : Value} (hd : d < tm.size)
    (hv : repAV w' S' μ' v u) : repEnv w' S' μ' ((d, v) :: env) (tm.setIfInBounds d u) := by
  intro i v' hl
  rw [look_cons] at hl
  rw [put_getD _ _ _ _ hd]
  by_cases he : d = i
  · rw [if_pos he] at hl ⊢
    injection hl with hl
    subst hl
    exact hv
  · rw [if_neg he] at hl ⊢
    exact k.av _ _ (h i v' hl)

theorem repEnv_keep {w w' : World} {S S' : Nat → Prop} {μ μ' : Mu} {env : List (Nat × AV)} {tm : Array Value} (k : Kp w w' S S' μ μ') (h : repEnv w S μ env tm) : repEnv w' S' μ' env tm :=
  fun i v hl => k.av _ _ (h i v hl)

end Go.Eng

/- A program logic over abstract states, part Key: what a map asks of its key's type. -/
namespace Go.Eng
open Go

def findX (k : List Int) : List (List Int) → List MapEntry → Nat → Option (Nat × Value)
  | kk :: ks, x :: xs, i => if kk = k then some (i, x.val) else findX k ks xs (i + 1)
  | _, _, _ => none

/-- The type t serves as a map's key; a key is told as n ints. -/
structure KeyOK (P : Program) (t n : Nat) : Prop where
  check : ∀ (w : World) (key : List Int) (e : Bool), key.length = n → (Instr.checkKey e 10000 t (keyV key)).run P w = .ok () w
  find : ∀ (w : World) (key : List Int) (ks : List (List Int)) (xs : List MapEntry), key.length = n → (∀ kk ∈ ks, kk.length = n) → xs.map (·.key) = ks.map keyV → (Instr.findKey t (keyV key) xs).run P w = .ok (findX key ks xs 0) w
  stays : ∀ (w : World) (key : List Int), key.length = n → (Instr.keyThatStays (keyV key) (keyV key)).run P w = .ok (keyV key) w

theorem findNow_int {x : Int} : ∀ {ks : List (List Int)} {xs : List MapEntry} {i : Nat}, (∀ kk ∈ ks, kk.length = 1) → xs.map (·.key) = ks.map keyV → Instr.findNow (.int .i64) (.int .i64 x) xs i = some (findX [x] ks xs i)
  | [], xs, i, _, h => by
    have : xs = [] := by simpa using h
    subst this
    rfl
  | kk :: ks, [], i, _, h => by simp at h
  | kk :: ks, e :: xs, i, hk, h => by
    simp only [List.map_cons, List.cons.injEq] at h
    obtain ⟨h1, h2⟩ := h
    obtain ⟨y, rfl⟩ := List.length_eq_one_iff.1 (hk kk List.mem_cons_self)
    have h1 : e.key = .int .i64 y := h1
    rw [Instr.findNow, h1]
    simp only [Instr.sameNow, if_true, findX]
    by_cases hxy : x = y
    · subst hxy
      simp
    · have hb : (x == y) = false := by simpa using hxy
      rw [hb, if_neg (by simpa using Ne.symm hxy)]
      exact findNow_int (fun kk hkk => hk kk (List.mem_cons_of_mem _ hkk)) h2

theorem keyOK_int {P : Program} {t : Nat} (h : P.underlying t = some (.int .i64)) : KeyOK P t 1 := by
  refine ⟨fun w key e hk => ?_, fun w key ks xs hk hks hx => ?_, fun w key hk => ?_⟩
  · obtain ⟨x, rfl⟩ := List.length_eq_one_iff.1 hk
    exact MapKept.run_checkKey h (show MapKept.IsKey (.int .i64) (.int .i64 x) from rfl) e 9999
  · obtain ⟨x, rfl⟩ := List.length_eq_one_iff.1 hk
    exact MapKept.run_findKey h (findNow_int hks hx)
  · obtain ⟨x, rfl⟩ := List.length_eq_one_iff.1 hk
    exact MapKept.run_keyThatStays (show MapKept.IsKey (.int .i64) (.int .i64 x) from rfl)

section
variable {P : Program}
theorem run_part_int {w : World} {t : Nat} {cs : Array Value} {off : Nat} {v : Value} (h : P.underlying t = some (.int .i64)) (hv : cs[off]? = some v) : (part t cs off).run P w = .ok v w := by
  simp [part, isAgg, run_underlying h, hv]

theorem checkKey_pair {t : Nat} {f0 f1 : Field} (h : P.underlying t = some (.struct #[f0, f1])) (h0 : P.underlying f0.type = some (.int .i64)) (h1 : P.underlying f1.type = some (.int .i64)) (o0 : f0.offset = 0) (o1 : f1.offset = 1)
    (w : World) (a b : Int) (e : Bool) (n : Nat) : (Instr.checkKey e (n + 2) t (.agg #[.int .i64 a, .int .i64 b])).run P w = .ok () w := by
  have k0 := MapKept.run_checkKey (w := w) h0 (show MapKept.IsKey (.int .i64) (.int .i64 a) from rfl) e n
  have k1 := MapKept.run_checkKey (w := w) h1 (show MapKept.IsKey (.int .i64) (.int .i64 b) from rfl) e n
  unfold Instr.checkKey
  simp only [Sem.run_bind, run_underlying h, Result.andThen_ok]
  simp [run_part_int h0, run_part_int h1, o0, o1, k0, k1]

theorem equal_pair {t : Nat} {f0 f1 : Field} (h : P.underlying t = some (.struct #[f0, f1])) (hp : P.stoodInHeld t = false) (h0 : P.underlying f0.type = some (.int .i64)) (h1 : P.underlying f1.type = some (.int .i64)) (o0 : f0.offset = 0) (o1 : f1.offset = 1)
    (n0 : f0.name ≠ "_") (n1 : f1.name ≠ "_") (w : World) (a b a' b' : Int) : (Op.equal t (.agg #[.int .i64 a, .int .i64 b]) (.agg #[.int .i64 a', .int .i64 b'])).run P w = .ok (a == a' && b == b') w := by
  have hf : P.fieldsOf t = #[f0, f1] := by simp [Program.fieldsOf, h]
  unfold Op.equal Op.maxDepth
  rw [run_equalIn_struct w 9999 t _ _ (by rw [hf]; exact h) hp, hf]
  simp only [Op.eqFields, Sem.run_ite, Sem.run_bind]
  simp [run_part_int h0, run_part_int h1, o0, o1, n0, n1]
  rw [run_equalIn_int w 9998 f0.type .i64 .i64 a a' h0]
  by_cases ha : a = a'
  · subst ha
    simp [run_equalIn_int w 9998 f1.type .i64 .i64 b b' h1]
    by_cases hb : b = b' <;> simp [hb]
  · simp [ha]

theorem findAsking_pair {t : Nat} {f0 f1 : Field} (h : P.underlying t = some (.struct #[f0, f1])) (hp : P.stoodInHeld t = false) (h0 : P.underlying f0.type = some (.int .i64)) (h1 : P.underlying f1.type = some (.int .i64)) (o0 : f0.offset = 0) (o1 : f1.offset = 1)
    (n0 : f0.name ≠ "_") (n1 : f1.name ≠ "_") (w : World) (a b : Int) : ∀ (ks : List (List Int)) (xs : List MapEntry) (i : Nat), (∀ kk ∈ ks, kk.length = 2) → xs.map (·.key) = ks.map keyV →
      (Instr.findAsking t (.agg #[.int .i64 a, .int .i64 b]) xs i).run P w = .ok (findX [a, b] ks xs i) w
  | [], xs, i, _, hx => by
    have : xs = [] := by simpa using hx
    subst this
    rfl
  | kk :: ks, [], i, _, hx => by simp at hx
  | kk :: ks, e :: xs, i, hk, hx => by
    simp only [List.map_cons, List.cons.injEq] at hx
    obtain ⟨g1, g2⟩ := hx
    obtain ⟨a', b', rfl⟩ : ∃ a' b', kk = [a', b'] := by
      have := hk kk List.mem_cons_self
      match kk, this with
      | [x, y], _ => exact ⟨x, y, rfl⟩
    have g1 : e.key = .agg #[.int .i64 a', .int .i64 b'] := g1
    rw [Instr.findAsking, g1]
    simp only [Sem.run_bind, equal_pair h hp h0 h1 o0 o1 n0 n1, Result.andThen_ok, findX, Sem.run_ite]
    by_cases ha : a = a' ∧ b = b'
    · obtain ⟨rfl, rfl⟩ := ha
      simp
    · have hb : (a == a' && b == b') = false := by
        rw [Bool.and_eq_false_iff]
        by_cases h : a = a'
        · exact .inr (by simpa using fun hb => ha ⟨h, hb⟩)
        · exact .inl (by simpa using h)
      rw [hb, if_neg (by simp), if_neg (by simp; intro h1 h2; exact ha ⟨h1.symm, h2.symm⟩)]
      exact findAsking_pair h hp h0 h1 o0 o1 n0 n1 w a b ks xs (i + 1) (fun kk hkk => hk kk (List.mem_cons_of_mem _ hkk)) g2

theorem keyOK_pair {t : Nat} {f0 f1 : Field} (h : P.underlying t = some (.struct #[f0, f1])) (hp : P.stoodInHeld t = false) (h0 : P.underlying f0.type = some (.int .i64)) (h1 : P.underlying f1.type = some (.int .i64)) (o0 : f0.offset = 0) (o1 : f1.offset = 1)
    (n0 : f0.name ≠ "_") (n1 : f1.name ≠ "_") : KeyOK P t 2 := by
  have two : ∀ {kk : List Int}, kk.length = 2 → ∃ a b, kk = [a, b] := by
    intro kk hk
    match kk, hk with
    | [x, y], _ => exact ⟨x, y, rfl⟩
  refine ⟨fun w key e hk => ?_, fun w key ks xs hk hks hx => ?_, fun w key hk => ?_⟩
  · obtain ⟨a, b, rfl⟩ := two hk
    exact checkKey_pair h h0 h1 o0 o1 w a b e 9998
  · obtain ⟨a, b, rfl⟩ := two hk
    show (Instr.findKey t (.agg #[.int .i64 a, .int .i64 b]) xs).run P w = _
    unfold Instr.findKey
    simp only [Sem.run_bind, run_underlying h, Result.andThen_ok]
    cases xs with
    | nil =>
      have : ks = [] := by simpa using hx.symm
      subst this
      rfl
    | cons e xs =>
      have : Instr.findNow (.struct #[f0, f1]) (.agg #[.int .i64 a, .int .i64 b]) (e :: xs) 0 = none := rfl
      rw [this]
      exact findAsking_pair h hp h0 h1 o0 o1 n0 n1 w a b ks (e :: xs) 0 hks hx
  · obtain ⟨a, b, rfl⟩ := two hk
    show (Instr.keyThatStays (.agg #[.int .i64 a, .int .i64 b]) (.agg #[.int .i64 a, .int .i64 b])).run P w = _
    simp [Instr.keyThatStays, Instr.sameBits, keyV]

/-- What is known of a type over and above its form, by its mark: 1 an int, 2 a struct of two ints, 3 a slice. -/
def KeyInfo (P : Program) (t : Nat) : Nat → Prop
  | 0 => True
  | 1 => KeyOK P t 1 ∧ ∀ w : World, (zeroValue t).run P w = .ok (.int .i64 0) w
  | 2 => KeyOK P t 2
  | _ => ∀ w : World, (zeroValue t).run P w = .ok (.slice none 0 0) w

theorem zero_run {t : Nat} {z : Value} (h : (P.info? t).map (·.zero) = some (some z)) (w : World) : (zeroValue t).run P w = .ok z w := by
  cases hi : P.info? t with
  | none => rw [hi] at h; cases h
  | some i =>
    rw [hi] at h
    simp only [Option.map_some, Option.some.injEq] at h
    simp [zeroValue, typeInfo, hi, h]
end
end Go.Eng
