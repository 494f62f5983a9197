/- A program logic over abstract states, part Map: maps. -/
import Derived.Test.YtahhejlpmacloaaPart04
import Derived.ChangeMaps4
namespace Go.Eng
open Go

def idxA (k : List Int) : List MEnt → Option (Nat × Int)
  | [] => none
  | e :: es => if e.k = k then some (0, e.v) else (idxA k es).map fun p => (p.1 + 1, p.2)

def AM.get (a : AM) (k : List Int) : Int := match idxA k a.es with
  | some p => p.2
  | none => 0
def AM.has (a : AM) (k : List Int) : Bool := (idxA k a.es).isSome
def AM.set (a : AM) (k : List Int) (v : Int) : AM := match idxA k a.es with
  | some p => ⟨a.es.modify p.1 fun e => { e with v := v }, a.c⟩
  | none => ⟨a.es ++ [⟨k, v, a.c⟩], a.c + 1⟩
def AM.del (a : AM) (k : List Int) : AM := match idxA k a.es with
  | some p => ⟨a.es.eraseIdx p.1, a.c⟩
  | none => a

theorem idxA_none {k : List Int} : ∀ {es : List MEnt}, idxA k es = none → ∀ e ∈ es, e.k ≠ k
  | [], _, e, he => by cases he
  | x :: es, h, e, he => by
    simp only [idxA] at h
    split at h
    · cases h
    · rename_i hk
      rcases List.mem_cons.1 he with rfl | he
      · exact hk
      · refine idxA_none (es := es) ?_ e he
        cases hi : idxA k es with
        | none => rfl
        | some p => rw [hi] at h; cases h

theorem AM.WF.nil {c : Nat} : AM.WF ⟨[], c⟩ := ⟨List.nodup_nil, List.nodup_nil, fun e he => by cases he⟩
theorem AM.WF.snoc {a : AM} (h : a.WF) {k : List Int} (hk : ∀ e ∈ a.es, e.k ≠ k) (v : Int) : AM.WF ⟨a.es ++ [⟨k, v, a.c⟩], a.c + 1⟩ := by
  refine ⟨?_, ?_, ?_⟩
  · rw [List.map_append, List.nodup_append]
    refine ⟨h.keys, by simp, ?_⟩
    intro x hx y hy
    obtain ⟨e, he, rfl⟩ := List.mem_map.1 hx
    simp at hy
    subst hy
    exact hk e he
  · rw [List.map_append, List.nodup_append]
    refine ⟨h.births, by simp, ?_⟩
    intro x hx y hy
    obtain ⟨e, he, rfl⟩ := List.mem_map.1 hx
    simp at hy
    subst hy
    exact Nat.ne_of_lt (h.born e he)
  · intro e he
    rcases List.mem_append.1 he with he | he
    · exact Nat.lt_succ_of_lt (h.born e he)
    · rw [List.mem_singleton.1 he]
      exact Nat.lt_succ_self _
theorem map_modify_same {α β : Type} (f : α → β) (g : α → α) (h : ∀ x, f (g x) = f x) (l : List α) (i : Nat) : (l.modify i g).map f = l.map f := by
  apply List.ext_getElem?
  intro j
  simp only [List.getElem?_map, List.getElem?_modify]
  cases l[j]? with
  | none => rfl
  | some x => by_cases e : i = j <;> simp [e, h]
theorem AM.WF.set {a : AM} (h : a.WF) (k : List Int) (v : Int) : (a.set k v).WF := by
  unfold AM.set
  split
  · refine ⟨?_, ?_, ?_⟩
    · exact (map_modify_same (·.k) (fun e : MEnt => { e with v := v }) (fun _ => rfl) a.es _).symm ▸ h.keys
    · exact (map_modify_same (·.b) (fun e : MEnt => { e with v := v }) (fun _ => rfl) a.es _).symm ▸ h.births
    · intro e he
      have : e.b ∈ (a.es.map (·.b)) := by
        rw [← map_modify_same (·.b) (fun e : MEnt => { e with v := v }) (fun _ => rfl)]
        exact List.mem_map.2 ⟨e, he, rfl⟩
      obtain ⟨e', he', hb⟩ := List.mem_map.1 this
      rw [← hb]
      exact h.born e' he'
  · rename_i hi
    exact h.snoc (idxA_none hi) v
theorem AM.WF.del {a : AM} (h : a.WF) (k : List Int) : (a.del k).WF := by
  unfold AM.del
  split
  · rename_i p _
    have hs : (a.es.eraseIdx p.1).Sublist a.es := List.eraseIdx_sublist _ _
    exact ⟨h.keys.sublist (hs.map _), h.births.sublist (hs.map _), fun e he => h.born e (List.mem_of_mem_eraseIdx he)⟩
  · exact h

theorem findX_idx (q : Nat) (k : List Int) : ∀ (es : List MEnt) (i : Nat), findX k (es.map (·.k)) (es.map (toEnt q)) i = (idxA k es).map fun p => (i + p.1, valQ q p.2)
  | [], i => rfl
  | e :: es, i => by
    simp only [List.map_cons, findX, idxA]
    split
    · rfl
    · rw [findX_idx q k es (i + 1)]
      cases idxA k es with
      | none => rfl
      | some p => simp; omega

theorem idxA_get {k : List Int} : ∀ {es : List MEnt} {p : Nat × Int}, idxA k es = some p → ∃ e, es[p.1]? = some e ∧ e.k = k ∧ e.v = p.2
  | [], p, h => by simp [idxA] at h
  | e :: es, p, h => by
    simp only [idxA] at h
    split at h
    · rename_i hk
      injection h with h
      subst h
      exact ⟨e, rfl, hk, rfl⟩
    · cases hi : idxA k es with
      | none => rw [hi] at h; cases h
      | some p' =>
        rw [hi] at h
        simp only [Option.map_some, Option.some.injEq] at h
        subst h
        obtain ⟨e', h1, h2⟩ := idxA_get hi
        exact ⟨e', by simpa using h1, h2⟩

section
variable {P : Program} {T : Tab} {w : World} {S : Nat → Prop} {μ : Mu}

theorem keys_ents (q : Nat) (es : List MEnt) : (es.map (toEnt q)).map (·.key) = (es.map (·.k)).map keyV := by
  simp [List.map_map, toEnt, Function.comp_def]

/-- A map of ints is looked up. -/
theorem lookupI_run {t kt et n q r : Nat} {a : AM} {key : List Int} {z : Value} (ht : P.underlying t = some (.map kt et)) (hk : KeyOK P kt n) (hr : w.heap[r]? = some (.map (a.es.map (toEnt q)).toArray a.c)) (hn : ∀ e ∈ a.es, e.k.length = n) (hkey : key.length = n)
    (hz : (zeroValue et).run P w = .ok z w) (hzq : z = valQ q 0) (ok : Bool) :
    (Instr.lookup t (.map (some r)) (keyV key) ok).run P w = .ok (if ok = true then .tuple #[valQ q (a.get key), .bool (a.has key)] else valQ q (a.get key)) w := by
  have hc := hk.check w key (a.es.map (toEnt q)).toArray.isEmpty hkey
  have hf := hk.find w key (a.es.map (·.k)) (a.es.map (toEnt q)) hkey (by
    intro kk hkk
    obtain ⟨e, he, rfl⟩ := List.mem_map.1 hkk
    exact hn e he) (keys_ents q a.es)
  rw [findX_idx] at hf
  subst hzq
  simp only [Instr.lookup, Sem.run_bind, run_underlying ht, Result.andThen_ok, MapKept.run_getObj_map hr]
  simp only [Sem.run_pure, Result.andThen_ok, hc, hf]
  unfold AM.get AM.has
  cases hi : idxA key a.es with
  | none =>
    simp only [Option.map_none, Sem.run_bind, hz, Result.andThen_ok, Sem.run_pure, Option.isSome_none]
  | some p =>
    simp only [Option.map_some, Option.isSome_some]
    cases ok <;> simp

def keyAV : Nat → AV → Option (List Int)
  | 1, .one (.c (.val (.int .i64 x))) => some [x]
  | 2, .agg [.c (.val (.int .i64 x)), .c (.val (.int .i64 y))] => some [x, y]
  | _, _ => none

theorem rep_keyAV {n : Nat} {v : AV} {u : Value} {k : List Int} (hr : repAV w S μ v u) (h : keyAV n v = some k) : u = keyV k ∧ k.length = n ∧ (n = 1 ∨ n = 2) := by
  unfold keyAV at h
  split at h
  · injection h with h
    subst h
    exact ⟨hr.1, rfl, .inl rfl⟩
  · injection h with h
    subst h
    obtain ⟨us, rfl, u1, r1, rfl, h1, u2, r2, rfl, h2, rfl⟩ := hr
    rw [h1.1, h2.1]
    exact ⟨rfl, rfl, .inr rfl⟩
  · cases h

theorem keyInfo_ok {t n : Nat} (h : KeyInfo P t n) (hn : n = 1 ∨ n = 2) : KeyOK P t n := by
  rcases hn with rfl | rfl
  · exact h.1
  · exact h

theorem findX_ents {l : List (List Int × Value)} {k : List Int} : ∀ {es : List MEnt} {xs : List MapEntry} {i : Nat}, entsR l es xs →
    xs.map (·.key) = (es.map (·.k)).map keyV ∧ ((∃ j, findX k (es.map (·.k)) xs i = some (j, valAt l k) ∧ ∃ e ∈ es, e.k = k) ∨ (findX k (es.map (·.k)) xs i = none ∧ ∀ e ∈ es, e.k ≠ k))
  | [], xs, i, h => by
    have : xs = [] := h
    subst this
    exact ⟨rfl, .inr ⟨rfl, fun e he => by cases he⟩⟩
  | e :: es, xs, i, ⟨x, r, hx, hk, _, hv, hr⟩ => by
    subst hx
    obtain ⟨h1, h2⟩ := findX_ents (k := k) (i := i + 1) hr
    refine ⟨by simp only [List.map_cons, hk, h1], ?_⟩
    simp only [List.map_cons, findX]
    split
    · rename_i he
      subst he
      exact .inl ⟨i, by rw [hv], e, List.mem_cons_self, rfl⟩
    · rename_i he
      rcases h2 with ⟨j, h2, e', he', hk'⟩ | ⟨h2, h3⟩
      · exact .inl ⟨j, h2, e', List.mem_cons_of_mem _ he', hk'⟩
      · refine .inr ⟨h2, fun e' he' => ?_⟩
        rcases List.mem_cons.1 he' with rfl | he'
        · exact he
        · exact h3 e' he'

def AM.hasR (a : AM) (k : List Int) : Bool := a.es.any fun e => decide (e.k = k)

/-- A map of rows is looked up. -/
theorem lookupR_run {t kt et n r : Nat} {l : List (List Int × Value)} {a : AM} {xs : List MapEntry} {key : List Int} (ht : P.underlying t = some (.map kt et)) (hk : KeyOK P kt n) (hr : w.heap[r]? = some (.map xs.toArray a.c)) (he : entsR l a.es xs)
    (hn : ∀ e ∈ a.es, e.k.length = n) (hnil : ∀ k, (∀ e ∈ a.es, e.k ≠ k) → valAt l k = .slice none 0 0) (hkey : key.length = n) (hz : (zeroValue et).run P w = .ok (.slice none 0 0) w) (ok : Bool) :
    (Instr.lookup t (.map (some r)) (keyV key) ok).run P w = .ok (if ok = true then .tuple #[valAt l key, .bool (a.hasR key)] else valAt l key) w := by
  have hc := hk.check w key xs.toArray.isEmpty hkey
  obtain ⟨g1, g2⟩ := findX_ents (k := key) (i := 0) he
  have hf := hk.find w key (a.es.map (·.k)) xs hkey (by
    intro kk hkk
    obtain ⟨e, he, rfl⟩ := List.mem_map.1 hkk
    exact hn e he) g1
  simp only [Instr.lookup, Sem.run_bind, run_underlying ht, Result.andThen_ok, MapKept.run_getObj_map hr]
  simp only [Sem.run_pure, Result.andThen_ok, hc, hf]
  rcases g2 with ⟨j, h1, e, he', hk'⟩ | ⟨h1, h2⟩
  · have hh : a.hasR key = true := List.any_eq_true.2 ⟨e, he', by simp [hk']⟩
    rw [h1, hh]
    cases ok <;> simp
  · have hh : a.hasR key = false := by
      rw [AM.hasR, List.any_eq_false]
      intro e he'
      simp [h2 e he']
    rw [h1, hh, hnil key h2]
    simp only [Sem.run_bind, hz, Result.andThen_ok, Sem.run_pure]

def setBlk (w : World) (r : Nat) (o : Obj) : World := { w with heap := w.heap.setIfInBounds r o }

theorem modify_toArray (q : Nat) (es : List MEnt) (i : Nat) (key : List Int) (v : Int) (hk : ∀ e, es[i]? = some e → e.k = key) :
    ((es.map (toEnt q)).toArray.modify i fun e => { e with key := keyV key, val := valQ q v }) = ((es.modify i fun e => { e with v := v }).map (toEnt q)).toArray := by
  apply Array.ext'
  simp only [Array.toList_modify]
  apply List.ext_getElem?
  intro j
  simp only [List.getElem?_modify, List.getElem?_map]
  by_cases hj : i = j
  · subst hj
    simp only [if_true]
    cases he : es[i]? with
    | none => rfl
    | some e => simp [toEnt, hk e he]
  · simp only [if_neg hj]
    cases es[j]? with
    | none => rfl
    | some e => simp

/-- A map of ints is written. -/
theorem updateI_run {t kt et n q r : Nat} {a : AM} {key : List Int} {v : Int} (ht : P.underlying t = some (.map kt et)) (hk : KeyOK P kt n) (hr : w.heap[r]? = some (.map (a.es.map (toEnt q)).toArray a.c)) (hn : ∀ e ∈ a.es, e.k.length = n) (hkey : key.length = n) :
    (Instr.mapUpdate t (.map (some r)) (keyV key) (valQ q v)).run P w = .ok () (setBlk w r (.map ((a.set key v).es.map (toEnt q)).toArray (a.set key v).c)) := by
  have hc := hk.check w key false hkey
  have hf := hk.find w key (a.es.map (·.k)) (a.es.map (toEnt q)) hkey (by
    intro kk hkk
    obtain ⟨e, he, rfl⟩ := List.mem_map.1 hkk
    exact hn e he) (keys_ents q a.es)
  rw [findX_idx] at hf
  have hs := hk.stays w key hkey
  simp only [Instr.mapUpdate, Sem.run_bind, run_underlying ht, Result.andThen_ok, MapKept.run_getObj_map hr, hc, hf]
  unfold AM.set
  cases hi : idxA key a.es with
  | none =>
    simp only [Option.map_none, MapKept.run_setObj_map _ hr]
    simp [setBlk, toEnt]
  | some p =>
    obtain ⟨e, h1, h2, h3⟩ := idxA_get hi
    have he : (((a.es.map (toEnt q)).toArray[p.1]?).map (·.key)).getD (keyV key) = keyV key := by
      simp [h1, toEnt, h2]
    simp only [Option.map_some, Nat.zero_add, he, Sem.run_bind, hs, Result.andThen_ok, MapKept.run_setObj_map _ hr]
    rw [modify_toArray q a.es p.1 key v (fun e' h' => by rw [h1] at h'; injection h' with h'; subst h'; exact h2)]
    rfl

/-! ### the effects -/
def mapEff (a : AM) (q : Nat) (k : List Int) : Bool → AV
  | true => .tup [(false, [.c (.val (valQ q (a.get k)))]), (false, [.c (.val (.bool (a.has k)))])]
  | false => .one (.c (.val (valQ q (a.get k))))

def rowEff (m g : Nat) (a : AM) (k : List Int) : Bool → AV
  | true => .tup [(false, [.mel m g k]), (false, [.c (.val (.bool (a.hasR k)))])]
  | false => .one (.mel m g k)

def lookupEff (T : Tab) (s : St) (t : Nat) (x key : Operand) (ok : Bool) : Option Eff :=
  match look T t with
  | none => none
  | some ti => match ti.desc with
    | .map kt et => match look T kt, look T et with
      | some tk, some te => match arg s x with
        | some (c, .one (.map m)) => match arg s key with
          | some (c', vk) => match keyAV tk.key vk with
            | none => none
            | some k => match look s.mem m with
              | some (.mapI n 0 a) => match Nat.beq te.key 1, Nat.beq n tk.key with
                | true, true => some ⟨c ++ c', mapEff a 0 k ok, []⟩
                | _, _ => none
              | some (.mapR n g none a) => match Nat.beq te.key 3, Nat.beq n tk.key, look s.mem g with
                | true, true, some (.grp _ _ _) => some ⟨c ++ c', rowEff m g a k ok, []⟩
                | _, _, _ => none
              | _ => none
          | none => none
        | _ => none
      | _, _ => none
    | _ => none

theorem valQ_scal (q : Nat) (x : Int) : scal (valQ q x) = true := by
  cases q <;> rfl

theorem lookup_ok (hT : TabOK P T) {o : Oper} {s : St} {t : Nat} {x key : Operand} {ok : Bool} (ho : o.op = .lookup t x key ok) {E : Eff} (h : lookupEff T s t x key ok = some E) : PureOK P o s E := by
  unfold lookupEff at h
  split at h
  · cases h
  rename_i ti hti
  split at h
  rotate_left
  · cases h
  rename_i kt et hd
  split at h
  rotate_left
  · cases h
  rename_i tk te htk hte
  split at h
  rotate_left
  · cases h
  rename_i c m hx
  split at h
  rotate_left
  · cases h
  rename_i c' vk hkey
  split at h
  · cases h
  rename_i k hk
  have ht : P.underlying t = some (.map kt et) := by rw [(hT _ _ hti).1, hd]
  obtain ⟨_, _, _, _, _, _, _, _, _, hki⟩ := hT _ _ htk
  obtain ⟨_, _, _, _, _, _, _, _, _, hei⟩ := hT _ _ hte
  split at h
  · rename_i n a hm
    split at h
    · rename_i h1 h2
      simp only [Option.some.injEq] at h
      subst h
      refine PureOK.of rfl fun w S μ F act hw he hc => ?_
      obtain ⟨hc1, hc2⟩ := All.app hc
      obtain ⟨hmu, r, hxe⟩ := rep_arg he hx hc1
      obtain ⟨hke, hkl, hn12⟩ := rep_keyAV (rep_arg he hkey hc2) hk
      obtain ⟨r', hmu', hr, hn, hwf⟩ := hw.res m _ hm
      rw [hmu] at hmu'
      injection hmu' with hmu'
      rw [hxe] at hmu'
      injection hmu' with hmu'
      injection hmu' with hmu'
      subst hmu'
      have hnn := Nat.eq_of_beq_eq_true h2
      rw [Nat.eq_of_beq_eq_true h1] at hei
      have hrun := lookupI_run (w := w) (q := 0) (z := .int .i64 0) ht (hnn ▸ keyInfo_ok hki hn12) hr hn (by rw [hkl, hnn]) (hei.2 w) rfl ok
      refine ⟨_, by simp [execOp, ho, hxe, hke, hrun]; rfl, ?_⟩
      cases ok with
      | true => exact ⟨_, rfl, _, _, ⟨_, _, rfl, ⟨rfl, valQ_scal _ _⟩, rfl⟩, ⟨_, rfl, rfl⟩, _, _, ⟨_, _, rfl, ⟨rfl, rfl⟩, rfl⟩, ⟨_, rfl, rfl⟩, rfl⟩
      | false => exact ⟨rfl, valQ_scal _ _⟩
    · cases h
  · rename_i n g a hm
    split at h
    · rename_i e0 sz0 f0 h1 h2 hg
      simp only [Option.some.injEq] at h
      subst h
      refine PureOK.of rfl fun w S μ F act hw he hc => ?_
      obtain ⟨hc1, hc2⟩ := All.app hc
      obtain ⟨hmu, r, hxe⟩ := rep_arg he hx hc1
      obtain ⟨hke, hkl, hn12⟩ := rep_keyAV (rep_arg he hkey hc2) hk
      obtain ⟨r', _, xs, hmu', hgl, hr, ⟨l, rfl, hes, hnil⟩, hn, hwf⟩ := hw.res m _ hm
      obtain ⟨l', _, hgl', hrows, _⟩ := hw.res g _ hg
      rw [hgl] at hgl'
      injection hgl' with hgl'
      obtain rfl := encG_inj hgl'
      rw [hmu] at hmu'
      injection hmu' with hmu'
      rw [hxe] at hmu'
      injection hmu' with hmu'
      injection hmu' with hmu'
      subst hmu'
      have hnn := Nat.eq_of_beq_eq_true h2
      rw [Nat.eq_of_beq_eq_true h1] at hei
      have hrun := lookupR_run (w := w) ht (hnn ▸ keyInfo_ok hki hn12) hr hes hn hnil (by rw [hkl, hnn]) (hei w) ok
      have hrow : ∃ A n c, valAt l k = .slice A n c := by
        obtain ⟨ys, hown, _⟩ := hrows k
        rcases hown.2 with ⟨hv, _⟩ | ⟨g', cap, cur, hv, _⟩
        · exact ⟨_, _, _, hv⟩
        · exact ⟨_, _, _, hv⟩
      refine ⟨_, by simp [execOp, ho, hxe, hke, hrun]; rfl, ?_⟩
      cases ok with
      | true => exact ⟨_, rfl, _, _, ⟨_, _, rfl, ⟨l, hgl, rfl, hrow⟩, rfl⟩, ⟨_, rfl, rfl⟩, _, _, ⟨_, _, rfl, ⟨rfl, rfl⟩, rfl⟩, ⟨_, rfl, rfl⟩, rfl⟩
      | false => exact ⟨l, hgl, rfl, hrow⟩
    · cases h
  · cases h

def updateEff (T : Tab) (s : St) (t : Nat) (x key v : Operand) : Option Eff :=
  match look T t with
  | none => none
  | some ti => match ti.desc with
    | .map kt _ => match look T kt with
      | some tk => match arg s x with
        | some (c, .one (.map m)) => match arg s key with
          | some (c', vk) => match keyAV tk.key vk with
            | none => none
            | some k => match look s.mem m with
              | some (.mapI n 0 a) => match Nat.beq n tk.key, arg s v with
                | true, some (c'', .one (.c (.val (.int .i64 y)))) => some ⟨c ++ c' ++ c'', .un, [(m, .mapI n 0 (a.set k y))]⟩
                | _, _ => none
              | _ => none
          | none => none
        | _ => none
      | none => none
    | _ => none

theorem set_keys {a : AM} {k : List Int} {v : Int} {n : Nat} (h : ∀ e ∈ a.es, e.k.length = n) (hk : k.length = n) : ∀ e ∈ (a.set k v).es, e.k.length = n := by
  unfold AM.set
  split
  · intro e he
    obtain ⟨j, hj⟩ := List.mem_iff_getElem?.1 he
    rw [List.getElem?_modify] at hj
    cases hg : a.es[j]? with
    | none => rw [hg] at hj; cases hj
    | some e' =>
      rw [hg] at hj
      simp only [Option.map_eq_map, Option.map_some, Option.some.injEq] at hj
      have := h e' (List.mem_of_getElem? hg)
      split at hj <;> subst hj <;> exact this
  · intro e he
    rcases List.mem_append.1 he with he | he
    · exact h e he
    · rw [List.mem_singleton.1 he]
      exact hk

theorem setBlk_heap (w : World) {r : Nat} (o : Obj) (h : r < w.heap.size) : (setBlk w r o).heap[r]? = some o := by
  simp [setBlk, h]
theorem setBlk_other (w : World) {r r' : Nat} (o : Obj) (h : r' ≠ r) : (setBlk w r o).heap[r']? = w.heap[r']? := by
  simp [setBlk, Array.getElem?_setIfInBounds_ne (Ne.symm h)]

theorem update_ok (hT : TabOK P T) {o : Oper} {s : St} {t : Nat} {x key v : Operand} (ho : o.op = .mapUpdate t x key v ∨ o.op = .insert t x key v) {E : Eff} (h : updateEff T s t x key v = some E) : StepOK P o s E (fun _ => False) := by
  unfold updateEff at h
  split at h
  · cases h
  rename_i ti hti
  split at h
  rotate_left
  · cases h
  rename_i kt et hd
  split at h
  rotate_left
  · cases h
  rename_i tk htk
  split at h
  rotate_left
  · cases h
  rename_i c m hx
  split at h
  rotate_left
  · cases h
  rename_i c' vk hkey
  split at h
  · cases h
  rename_i k hk
  have ht : P.underlying t = some (.map kt et) := by rw [(hT _ _ hti).1, hd]
  obtain ⟨_, _, _, _, _, _, _, _, _, hki⟩ := hT _ _ htk
  split at h
  · rename_i n a hm
    split at h
    · rename_i c'' y h2 hv
      simp only [Option.some.injEq] at h
      subst h
      intro F w S μ act hw he hnb hc K Q hK
      obtain ⟨hc12, hc3⟩ := All.app hc
      obtain ⟨hc1, hc2⟩ := All.app hc12
      obtain ⟨hmu, r, hxe⟩ := rep_arg he hx hc1
      obtain ⟨hke, hkl, hn12⟩ := rep_keyAV (rep_arg he hkey hc2) hk
      have hve : act.eval v = .int .i64 y := (rep_arg he hv hc3).1
      obtain ⟨r', hmu', hr, hn, hwf⟩ := hw.res m _ hm
      have hmu0 := hmu'
      rw [hmu] at hmu'
      injection hmu' with hmu'
      rw [hxe] at hmu'
      injection hmu' with hmu'
      injection hmu' with hmu'
      subst hmu'
      have hnn := Nat.eq_of_beq_eq_true h2
      have hrun := updateI_run (w := w) (q := 0) (v := y) ht (hnn ▸ keyInfo_ok hki hn12) hr hn (by rw [hkl, hnn])
      have hlt : r < w.heap.size := (Array.getElem?_eq_some_iff.1 hr).1
      have hO : Owns μ s.mem m r := ⟨_, _, hm, rfl, hmu0, List.mem_singleton.2 rfl⟩
      have hwr := hw.writeG (w' := setBlk w r (.map ((a.set k y).es.map (toEnt 0)).toArray (a.set k y).c)) hO rfl rfl rfl (by simp [setBlk]) (fun b' hb' => setBlk_other w _ hb') (.mapI n 0 (a.set k y))
        (fun v' hv' b' hb' => ⟨_, v', hm, rfl, hv', hb'⟩) ⟨r, hmu0, setBlk_heap w _ hlt, set_keys hn (by rw [hkl, hnn]), hwf.set k y⟩
      have hs := (hw.sep m r hO).1
      refine wp_skip' (w' := setBlk w r (.map ((a.set k y).es.map (toEnt 0)).toArray (a.set k y).c)) ?_ (hK undef _ S μ ⟨fun _ h => h, fun b hb => setBlk_other w _ (by rintro rfl; exact hs hb), fun _ _ h => h⟩ hwr trivial (fun _ _ => rfl))
      have hvq : valQ 0 y = .int .i64 y := rfl
      rw [hvq] at hrun
      rcases ho with ho | ho <;> simp [execOp, ho, hxe, hke, hve, hrun]
    · cases h
  · cases h

def makeMapEff (T : Tab) (d t : Nat) : Option Operand → Option Eff
  | some _ => none
  | none => match look T t with
    | none => none
    | some ti => match ti.desc with
      | .map kt et => match look T kt, look T et with
        | some tk, some te => match te.key, te.desc with
          | 1, _ => some ⟨[], .one (.map d), [(d, .mapI tk.key 0 ⟨[], 0⟩)]⟩
          | 3, .slice e => match look T e with
            | some ti' => some ⟨[], .one (.map d), [(d, .mapR tk.key (d + 1) none ⟨[], 0⟩), (d + 1, .grp e ti'.size fun _ => (0, fun _ _ => .val (.bool false)))]⟩
            | none => none
          | _, _ => none
        | _, _ => none
      | _ => none

/-- A group without rows. -/
theorem Wp.newGrp {F : Fr} {mem : List (Nat × Res)} (h : Wp F w S μ mem) {d : Nat} (hd : μ d = none) (e sz : Nat) : Wp F w S (setμ μ d (encG [])) ((d, .grp e sz fun _ => (0, fun _ _ => .val (.bool false))) :: mem) := by
  have k : Kp w w S S μ (setμ μ d (encG [])) := ⟨fun _ h => h, fun _ _ => rfl, setμ_mono hd _⟩
  refine Wp.upd (fun _ => False) (fun m => m = d) h k rfl rfl rfl (Nat.le_refl _) (fun _ _ _ => rfl) (fun _ hb => hb.elim) h.Sb (fun _ hb => .inl hb) ?_ ?_ ?_ ?_ ?_ ?_
  · intro m hm; rw [look_cons, if_neg (fun e => hm e.symm)]
  · intro m b _ hO; exact ⟨id, (h.sep m b hO).1⟩
  · rintro m r rfl hl
    rw [look_cons, if_pos rfl] at hl
    injection hl with hl
    subst hl
    refine ⟨[], List.nodup_nil, setμ_same _ _ _, fun k => ⟨[], World.ownsRow_nil w 0 e sz, fun i hi => absurd hi (Nat.not_lt_zero i)⟩, fun k k' b _ hb => ?_⟩
    simp [valAt, Value.ownBlock] at hb
  · rintro m b rfl hO
    obtain ⟨_, hb⟩ := owns_cons_same hO
    simp [encG, blks] at hb
  · rintro m m' b rfl rfl _ _; rfl
  · rintro m m' b rfl _ hO _
    obtain ⟨_, hb⟩ := owns_cons_same hO
    simp [encG, blks] at hb

theorem makeMap_ok {o : Oper} {s : St} {d t : Nat} {r : Option Operand} (ho : o.op = .makeMap t r) {E : Eff} (h : makeMapEff T d t r = some E) : StepOK P o s E (fun m => m = d ∨ m = d + 1) := by
  cases r with
  | some r => simp [makeMapEff] at h
  | none =>
    simp only [makeMapEff] at h
    split at h
    · cases h
    split at h
    rotate_left
    · cases h
    rename_i kt et hd
    split at h
    rotate_left
    · cases h
    rename_i tk te htk hte
    have hrun : ∀ w : World, (Instr.makeMap t none).run P w = .ok (.map (some w.heap.size)) (w.alloc (.map #[] 0)) := fun w => by
      simp [Instr.makeMap, newObj, Sem.run, Result.andThen]
    split at h
    · simp only [Option.some.injEq] at h
      subst h
      intro F w S μ a hw he hnb hc K Q hK
      have hd := hnb d (.inl rfl)
      refine wp_value (by simp [execOp, ho, hrun]) (hK _ _ S _ (Kp.alloc hw.Sb hd _ _) (hw.new hd (.map #[] 0) (.map (some w.heap.size)) (.mapI tk.key 0 ⟨[], 0⟩) (by intro b hb; simpa [blks] using hb) ?_) ⟨setμ_same _ _ _, _, rfl⟩ (fun m hm => setμ_ne _ _ (fun e => hm (.inl e))))
      exact ⟨_, setμ_same _ _ _, heap_alloc_new w _, (fun e he => by cases he), AM.WF.nil⟩
    · rename_i e1 _ _
      split at h
      · rename_i ti' _
        simp only [Option.some.injEq] at h
        subst h
        intro F w S μ a hw he hnb hc K Q hK
        have hd := hnb d (.inl rfl)
        have hd1 := hnb (d + 1) (.inr rfl)
        have w1 := hw.newGrp hd1 e1 ti'.size
        have hd' : setμ μ (d + 1) (encG []) d = none := by rw [setμ_ne _ _ (by omega)]; exact hd
        have k1 : Kp w w S S μ (setμ μ (d + 1) (encG [])) := ⟨fun _ h => h, fun _ _ => rfl, setμ_mono hd1 _⟩
        have k2 := Kp.alloc (μ := setμ μ (d + 1) (encG [])) w1.Sb hd' (.map #[] 0) (.map (some w.heap.size))
        refine wp_value (by simp [execOp, ho, hrun]) (hK _ _ S _ (k1.trans k2) (w1.new hd' (.map #[] 0) (.map (some w.heap.size)) (.mapR tk.key (d + 1) none ⟨[], 0⟩) (by intro b hb; simpa [blks] using hb) ?_) ⟨setμ_same _ _ _, _, rfl⟩ (fun m hm => ?_))
        · exact ⟨_, [], [], setμ_same _ _ _, by rw [setμ_ne _ _ (by omega), setμ_same], heap_alloc_new w _, ⟨[], rfl, rfl, fun k _ => rfl⟩, (fun e he => by cases he), AM.WF.nil⟩
        · rw [setμ_ne _ _ (fun e => hm (.inl e)), setμ_ne _ _ (fun e => hm (.inr e))]
      · cases h
    · cases h

/-- An entry of a map of ints is deleted. -/
theorem deleteI_run {t t2 ty kt et n q r : Nat} {a : AM} {key : List Int} (ht : P.underlying t = some (.map kt et)) (hk : KeyOK P kt n) (hr : w.heap[r]? = some (.map (a.es.map (toEnt q)).toArray a.c)) (hn : ∀ e ∈ a.es, e.k.length = n) (hkey : key.length = n) :
    (Builtin.delete_ #[t, t2] ty #[.map (some r), keyV key]).run P w = .ok (.tuple #[]) (setBlk w r (.map ((a.del key).es.map (toEnt q)).toArray (a.del key).c)) := by
  have hc : ∀ e, (Instr.checkKey e 10000 kt (keyV key)).run P w = .ok () w := fun e => hk.check w key e hkey
  have hf := hk.find w key (a.es.map (·.k)) (a.es.map (toEnt q)) hkey (by
    intro kk hkk
    obtain ⟨e, he, rfl⟩ := List.mem_map.1 hkk
    exact hn e he) (keys_ents q a.es)
  rw [findX_idx] at hf
  unfold AM.del
  cases hi : idxA key a.es with
  | none =>
    rw [hi] at hf
    simp only [Option.map_none] at hf
    simp [Builtin.delete_, run_underlying ht, MapKept.run_getObj_map hr, hc, hf, MapKept.run_setObj_map _ hr, setBlk, Result.andThen]
  | some p =>
    rw [hi] at hf
    simp only [Option.map_some, Nat.zero_add] at hf
    simp [Builtin.delete_, run_underlying ht, MapKept.run_getObj_map hr, hc, hf, MapKept.run_setObj_map _ hr, setBlk, Result.andThen, ChangeMaps.map_eraseIdx]

def deleteEff (T : Tab) (s : St) (t : Nat) (x key : Operand) : Option Eff :=
  match look T t with
  | none => none
  | some ti => match ti.desc with
    | .map kt _ => match look T kt with
      | some tk => match arg s x with
        | some (c, .one (.map m)) => match arg s key with
          | some (c', vk) => match keyAV tk.key vk with
            | none => none
            | some k => match look s.mem m with
              | some (.mapI n 0 a) => match Nat.beq n tk.key with
                | true => some ⟨c ++ c', .un, [(m, .mapI n 0 (a.del k))]⟩
                | false => none
              | _ => none
          | none => none
        | _ => none
      | none => none
    | _ => none

theorem del_keys {a : AM} {k : List Int} {n : Nat} (h : ∀ e ∈ a.es, e.k.length = n) : ∀ e ∈ (a.del k).es, e.k.length = n := by
  unfold AM.del
  split
  · exact fun e he => h e (List.mem_of_mem_eraseIdx he)
  · exact h

theorem delete_ok (hT : TabOK P T) {o : Oper} {s : St} {t t2 : Nat} {x key : Operand} (ho : o.op = .call { callee := .builtin .delete, args := #[x, key], argTypes := #[t, t2] }) {E : Eff} (h : deleteEff T s t x key = some E) : StepOK P o s E (fun _ => False) := by
  unfold deleteEff at h
  split at h
  · cases h
  rename_i ti hti
  split at h
  rotate_left
  · cases h
  rename_i kt et hd
  split at h
  rotate_left
  · cases h
  rename_i tk htk
  split at h
  rotate_left
  · cases h
  rename_i c m hx
  split at h
  rotate_left
  · cases h
  rename_i c' vk hkey
  split at h
  · cases h
  rename_i k hk
  have ht : P.underlying t = some (.map kt et) := by rw [(hT _ _ hti).1, hd]
  obtain ⟨_, _, _, _, _, _, _, _, _, hki⟩ := hT _ _ htk
  split at h
  · rename_i n a hm
    split at h
    · rename_i h2
      simp only [Option.some.injEq] at h
      subst h
      intro F w S μ act hw he hnb hc K Q hK
      obtain ⟨hc1, hc2⟩ := All.app hc
      obtain ⟨hmu, r, hxe⟩ := rep_arg he hx hc1
      obtain ⟨hke, hkl, hn12⟩ := rep_keyAV (rep_arg he hkey hc2) hk
      obtain ⟨r', hmu', hr, hn, hwf⟩ := hw.res m _ hm
      have hmu0 := hmu'
      rw [hmu] at hmu'
      injection hmu' with hmu'
      rw [hxe] at hmu'
      injection hmu' with hmu'
      injection hmu' with hmu'
      subst hmu'
      have hnn := Nat.eq_of_beq_eq_true h2
      have hrun := fun ty => deleteI_run (w := w) (q := 0) (t2 := t2) (ty := ty) ht (hnn ▸ keyInfo_ok hki hn12) hr hn (by rw [hkl, hnn])
      have hlt : r < w.heap.size := (Array.getElem?_eq_some_iff.1 hr).1
      have hO : Owns μ s.mem m r := ⟨_, _, hm, rfl, hmu0, List.mem_singleton.2 rfl⟩
      have hwr := hw.writeG (w' := setBlk w r (.map ((a.del k).es.map (toEnt 0)).toArray (a.del k).c)) hO rfl rfl rfl (by simp [setBlk]) (fun b' hb' => setBlk_other w _ hb') (.mapI n 0 (a.del k))
        (fun v' hv' b' hb' => ⟨_, v', hm, rfl, hv', hb'⟩) ⟨r, hmu0, setBlk_heap w _ hlt, del_keys hn, hwf.del k⟩
      have hs := (hw.sep m r hO).1
      refine wp_value (u := .tuple #[]) (w' := setBlk w r (.map ((a.del k).es.map (toEnt 0)).toArray (a.del k).c)) ?_ (hK _ _ S μ ⟨fun _ h => h, fun b hb => setBlk_other w _ (by rintro rfl; exact hs hb), fun _ _ h => h⟩ hwr trivial (fun _ _ => rfl))
      simp [execOp, ho, resolve, invoke, builtin, hxe, hke, hrun]
    · cases h
  · cases h
end
end Go.Eng

/- A program logic over abstract states, part Take: a row is taken out of a group, and put in again. -/
namespace Go.Eng
open Go

def nilRow : Nat × (Nat → Nat → Cell) := (0, fun _ _ => .val (.bool false))
def updF (f : List Int → Nat × (Nat → Nat → Cell)) (k : List Int) (r : Nat × (Nat → Nat → Cell)) : List Int → Nat × (Nat → Nat → Cell) := fun k' => if k' = k then r else f k'

/-- The rows but for one. -/
def cutL (l : List (List Int × Value)) (k : List Int) : List (List Int × Value) := l.filter fun p => decide (p.1 ≠ k)

theorem valAt_cut (l : List (List Int × Value)) (k k' : List Int) : valAt (cutL l k) k' = if k' = k then .slice none 0 0 else valAt l k' := by
  induction l with
  | nil => simp [cutL, valAt]
  | cons p l ih =>
    obtain ⟨k0, v⟩ := p
    unfold cutL at ih ⊢
    by_cases h : k0 = k
    · rw [List.filter_cons_of_neg (by simp [h]), ih]
      by_cases h' : k' = k
      · rw [if_pos h', if_pos h']
      · rw [if_neg h', if_neg h']
        simp only [valAt]
        rw [if_neg (fun e => h' (e.symm.trans h))]
    · rw [List.filter_cons_of_pos (by simpa using h)]
      simp only [valAt]
      by_cases h' : k' = k
      · rw [if_pos h', if_neg (fun e => h (e.trans h')), ih, if_pos h']
      · rw [if_neg h', ih, if_neg h']

theorem cutL_nodup {l : List (List Int × Value)} {k : List Int} (h : (l.map (·.1)).Nodup) : ((cutL l k).map (·.1)).Nodup :=
  h.sublist (List.Sublist.map _ List.filter_sublist)

theorem valAt_hole (l : List (List Int × Value)) (k k' : List Int) : valAt ((k, valAt l k) :: cutL l k) k' = valAt l k' := by
  simp only [valAt]
  by_cases h : k = k'
  · rw [if_pos h, h]
  · rw [if_neg h, valAt_cut, if_neg (Ne.symm h)]

theorem entsR_congr {l l' : List (List Int × Value)} (h : ∀ k, valAt l' k = valAt l k) : ∀ {es : List MEnt} {xs : List MapEntry}, entsR l es xs → entsR l' es xs
  | [], _, e => e
  | _ :: _, _, ⟨x, r, hx, hk, hb, hv, hr⟩ => ⟨x, r, hx, hk, hb, by rw [hv, h], entsR_congr h hr⟩

theorem blks_cut {l : List (List Int × Value)} {k : List Int} {b : Nat} (h : b ∈ blks (encG (cutL l k))) : b ∈ blks (encG l) := by
  unfold encG blks at h ⊢
  simp only [List.mem_filterMap, List.mem_map] at h ⊢
  obtain ⟨x, ⟨p, hp, rfl⟩, e⟩ := h
  exact ⟨_, ⟨p, (List.mem_filter.1 hp).1, rfl⟩, e⟩

section
variable {F : Fr} {w : World} {S : Nat → Prop} {μ : Mu} {mem : List (Nat × Res)}

/-- The row under k goes its own way. m: what holds the rows; r': how it is told then. -/
theorem Wp.takeOut (h : Wp F w S μ mem) {m g d e sz : Nat} {f : List Int → Nat × (Nat → Nat → Cell)} {k : List Int} {r0 r' : Res} {l : List (List Int × Value)} (hg : look mem g = some (.grp e sz f)) (hv : μ g = some (encG l)) (hm : look mem m = some r0) (hr0 : r0.live = true) (hgm : g ≠ m) (hd1 : μ (d + 1) = none) (hd2 : μ (d + 2) = none)
    (hnew : ∀ μ2 : Mu, (∀ x v, μ x = some v → μ2 x = some v) → μ2 (d + 1) = some (encG (cutL l k)) → μ2 (d + 2) = some (valAt l k) → repRes w S μ2 m r') :
    Wp F w S (setμ (setμ μ (d + 1) (encG (cutL l k))) (d + 2) (valAt l k)) ((d + 2, .row e sz (f k).1 (f k).2) :: (d + 1, .grp e sz (updF f k nilRow)) :: (m, r') :: (g, .dead) :: mem) ∧
      (∀ x v, μ x = some v → setμ (setμ μ (d + 1) (encG (cutL l k))) (d + 2) (valAt l k) x = some v) ∧ ∃ A n c, valAt l k = .slice A n c := by
  obtain ⟨l', hn, hv', hrow, hdist⟩ := h.res g _ hg
  rw [hv] at hv'
  injection hv' with hv'
  obtain rfl := encG_inj hv'
  obtain ⟨vm, hmu⟩ := h.mu_some hm hr0
  let μ2 := setμ (setμ μ (d + 1) (encG (cutL l k))) (d + 2) (valAt l k)
  have m2 : μ2 (d + 2) = some (valAt l k) := setμ_same _ _ _
  have m1 : μ2 (d + 1) = some (encG (cutL l k)) := by
    show setμ _ _ _ _ = _
    rw [setμ_ne _ _ (by omega), setμ_same]
  have mo : ∀ x v, μ x = some v → μ2 x = some v := fun x v hx => setμ_mono (by rw [setμ_ne _ _ (by omega)]; exact hd2) _ x v (setμ_mono hd1 _ x v hx)
  have kp : Kp w w S S μ μ2 := ⟨fun _ h => h, fun _ _ => rfl, mo⟩
  have hmd1 : m ≠ d + 1 := by rintro rfl; rw [hd1] at hmu; cases hmu
  have hmd2 : m ≠ d + 2 := by rintro rfl; rw [hd2] at hmu; cases hmu
  have hgd1 : g ≠ d + 1 := by rintro rfl; rw [hd1] at hv; cases hv
  have hgd2 : g ≠ d + 2 := by rintro rfl; rw [hd2] at hv; cases hv
  let mem' := (d + 2, Res.row e sz (f k).1 (f k).2) :: (d + 1, Res.grp e sz (updF f k nilRow)) :: (m, r') :: (g, Res.dead) :: mem
  have l2 : look mem' (d + 2) = some (.row e sz (f k).1 (f k).2) := by rw [look_cons, if_pos rfl]
  have l1 : look mem' (d + 1) = some (.grp e sz (updF f k nilRow)) := by rw [look_cons, if_neg (by omega), look_cons, if_pos rfl]
  have lm : look mem' m = some r' := by rw [look_cons, if_neg (Ne.symm hmd2), look_cons, if_neg (Ne.symm hmd1), look_cons, if_pos rfl]
  have lg : look mem' g = some .dead := by rw [look_cons, if_neg (Ne.symm hgd2), look_cons, if_neg (Ne.symm hgd1), look_cons, if_neg (Ne.symm hgm), look_cons, if_pos rfl]
  obtain ⟨ys, hown, hys⟩ := hrow k
  have Og : ∀ b, b ∈ blks (encG l) → Owns μ mem g b := fun b hb => ⟨_, _, hg, rfl, hv, hb⟩
  have o2 : ∀ b, Owns μ2 mem' (d + 2) b → (valAt l k).ownBlock = some b := by
    rintro b ⟨r', v', hl', _, hv', hb⟩
    rw [m2] at hv'
    injection hv' with hv'
    subst hv'
    exact (ownsRow_blks hown b).1 hb
  have o2g : ∀ b, Owns μ2 mem' (d + 2) b → Owns μ mem g b := fun b hO => Og b (grp_blks hown (o2 b hO))
  have o1 : ∀ b, Owns μ2 mem' (d + 1) b → b ∈ blks (encG (cutL l k)) := by
    rintro b ⟨r', v', hl', _, hv', hb⟩
    rw [m1] at hv'
    injection hv' with hv'
    subst hv'
    exact hb
  have o1g : ∀ b, Owns μ2 mem' (d + 1) b → Owns μ mem g b := fun b hO => Og b (blks_cut (o1 b hO))
  have om : ∀ b, Owns μ2 mem' m b → Owns μ mem m b := by
    rintro b ⟨r', v', hl', _, hv', hb⟩
    rw [mo m _ hmu] at hv'
    injection hv' with hv'
    subst hv'
    exact ⟨_, _, hm, hr0, hmu, hb⟩
  have og : ∀ b, ¬ Owns μ2 mem' g b := by
    rintro b ⟨r', v', hl', hlive, _⟩
    rw [lg] at hl'
    injection hl' with hl'
    subst hl'
    cases hlive
  have part : ∀ b, Owns μ2 mem' (d + 2) b → ¬ Owns μ2 mem' (d + 1) b := by
    intro b h2 h1
    obtain ⟨k', ad, nn, cc, hk', hb⟩ := blks_grp (cutL_nodup hn) (o1 b h1)
    rw [valAt_cut] at hk'
    split at hk'
    · cases hk'
    · rename_i hne
      exact hdist k k' b (Ne.symm hne) (o2 b h2) (by rw [hk']; simp [Value.ownBlock, hb])
  refine ⟨?_, mo, ?_⟩
  · refine Wp.upd (fun _ => False) (fun x => x = d + 2 ∨ x = d + 1 ∨ x = m ∨ x = g) h kp rfl rfl rfl (Nat.le_refl _) (fun _ _ _ => rfl) (fun _ hb => hb.elim) h.Sb (fun _ hb => .inl hb) ?_ ?_ ?_ ?_ ?_ ?_
    · intro x hx
      simp only [not_or] at hx
      rw [look_cons, if_neg (Ne.symm hx.1), look_cons, if_neg (Ne.symm hx.2.1), look_cons, if_neg (Ne.symm hx.2.2.1), look_cons, if_neg (Ne.symm hx.2.2.2)]
    · intro x b _ hO; exact ⟨id, (h.sep x b hO).1⟩
    · rintro x rx (rfl | rfl | rfl | rfl) hl
      · rw [l2] at hl
        injection hl with hl
        subst hl
        exact ⟨_, ys, m2, hown, hys⟩
      · rw [l1] at hl
        injection hl with hl
        subst hl
        refine ⟨cutL l k, cutL_nodup hn, m1, fun k' => ?_, fun k1 k2 b hne hb => ?_⟩
        · rw [valAt_cut]
          unfold updF
          split
          · exact ⟨[], World.ownsRow_nil w 0 e sz, fun i hi => absurd hi (Nat.not_lt_zero i)⟩
          · exact hrow k'
        · rw [valAt_cut] at hb ⊢
          split at hb
          · simp [Value.ownBlock] at hb
          · split
            · simp [Value.ownBlock]
            · exact hdist k1 k2 b hne hb
      · rw [lm] at hl
        injection hl with hl
        subst hl
        exact hnew μ2 mo m1 m2
      · rw [lg] at hl
        injection hl with hl
        subst hl
        trivial
    · rintro x b (rfl | rfl | rfl | rfl) hO
      · exact h.sep g b (o2g b hO)
      · exact h.sep g b (o1g b hO)
      · exact h.sep _ b (om b hO)
      · exact absurd hO (og b)
    · have mg : ∀ b, Owns μ mem g b → ¬ Owns μ mem m b := fun b h1 h2 => hgm (h.dis _ _ _ h1 h2)
      rintro x x' b (rfl | rfl | rfl | rfl) (rfl | rfl | rfl | rfl) hO hO'
      · rfl
      · exact absurd hO' (part b hO)
      · exact absurd (om b hO') (mg b (o2g b hO))
      · exact absurd hO' (og b)
      · exact absurd hO (part b hO')
      · rfl
      · exact absurd (om b hO') (mg b (o1g b hO))
      · exact absurd hO' (og b)
      · exact absurd (om b hO) (mg b (o2g b hO'))
      · exact absurd (om b hO) (mg b (o1g b hO'))
      · rfl
      · exact absurd hO' (og b)
      · exact absurd hO (og b)
      · exact absurd hO (og b)
      · exact absurd hO (og b)
      · rfl
    · rintro x x' b (rfl | rfl | rfl | rfl) hx' hO hO'
      · exact hx' (.inr (.inr (.inr (h.dis _ _ _ hO' (o2g b hO)))))
      · exact hx' (.inr (.inr (.inr (h.dis _ _ _ hO' (o1g b hO)))))
      · exact hx' (.inr (.inr (.inl (h.dis _ _ _ hO' (om b hO)))))
      · exact absurd hO (og b)
  · rcases hown.2 with ⟨hv, _⟩ | ⟨g', cap, cur, hv, _⟩
    · exact ⟨_, _, _, hv⟩
    · exact ⟨_, _, _, hv⟩

/-- A row of one's own goes into the group, under k; a block b of m's is written. -/
theorem Wp.putIn (h : Wp F w S μ mem) {m g d q e sz n : Nat} {f : List Int → Nat × (Nat → Nat → Cell)} {get : Nat → Nat → Cell} {k : List Int} {r0 r' : Res} {l : List (List Int × Value)} {v : Value} (hg : look mem g = some (.grp e sz f)) (hv : μ g = some (encG l))
    (hd : look mem d = some (.row e sz n get)) (hdv : μ d = some v) (hm : look mem m = some r0) (hr0 : r0.live = true) (hgm : g ≠ m) (hdm : d ≠ m) (hq : μ q = none)
    {w' : World} (ho : w'.os = w.os) (ht : w'.tape = w.tape) (hu : w'.output = w.output) (hz : w'.heap.size = w.heap.size) (hh : ∀ b, ¬ Owns μ mem m b → w'.heap[b]? = w.heap[b]?)
    (hnew : ∀ μ2 : Mu, (∀ x v, μ x = some v → μ2 x = some v) → μ2 q = some (encG ((k, v) :: cutL l k)) → repRes w' S μ2 m r') :
    Wp F w' S (setμ μ q (encG ((k, v) :: cutL l k))) ((q, .grp e sz (updF f k (n, get))) :: (m, r') :: (d, .dead) :: (g, .dead) :: mem) ∧ Kp w w' S S μ (setμ μ q (encG ((k, v) :: cutL l k))) := by
  obtain ⟨l', hn, hv', hrow, hdist⟩ := h.res g _ hg
  rw [hv] at hv'
  injection hv' with hv'
  obtain rfl := encG_inj hv'
  obtain ⟨v', xs, hdv', hown, hxs⟩ := h.res d _ hd
  rw [hdv] at hdv'
  injection hdv' with hdv'
  subst hdv'
  obtain ⟨vm, hmu⟩ := h.mu_some hm hr0
  have mo : ∀ x u, μ x = some u → setμ μ q (encG ((k, v) :: cutL l k)) x = some u := setμ_mono hq _
  have hS : ∀ b, S b → w'.heap[b]? = w.heap[b]? := fun b hb => hh b (fun hO => (h.sep m b hO).1 hb)
  have kp : Kp w w' S S μ (setμ μ q (encG ((k, v) :: cutL l k))) := ⟨fun _ h => h, hS, mo⟩
  have hgd : g ≠ d := by
    rintro rfl
    rw [hg] at hd
    cases hd
  have ne : ∀ {x u}, μ x = some u → x ≠ q := by
    rintro x u hx rfl
    rw [hq] at hx
    cases hx
  let mem' := (q, Res.grp e sz (updF f k (n, get))) :: (m, r') :: (d, Res.dead) :: (g, Res.dead) :: mem
  have lq : look mem' q = some (.grp e sz (updF f k (n, get))) := by rw [look_cons, if_pos rfl]
  have lm : look mem' m = some r' := by rw [look_cons, if_neg (Ne.symm (ne hmu)), look_cons, if_pos rfl]
  have ld : look mem' d = some .dead := by rw [look_cons, if_neg (Ne.symm (ne hdv)), look_cons, if_neg (Ne.symm hdm), look_cons, if_pos rfl]
  have lg : look mem' g = some .dead := by rw [look_cons, if_neg (Ne.symm (ne hv)), look_cons, if_neg (Ne.symm hgm), look_cons, if_neg (Ne.symm hgd), look_cons, if_pos rfl]
  have Og : ∀ b, b ∈ blks (encG l) → Owns μ mem g b := fun b hb => ⟨_, _, hg, rfl, hv, hb⟩
  have Od : ∀ b, v.ownBlock = some b → Owns μ mem d b := fun b hb => ⟨_, _, hd, rfl, hdv, (ownsRow_blks hown b).2 hb⟩
  have hval : ∀ k', valAt ((k, v) :: cutL l k) k' = if k' = k then v else valAt l k' := by
    intro k'
    simp only [valAt]
    by_cases hk : k' = k
    · rw [if_pos hk.symm, if_pos hk]
    · rw [if_neg (Ne.symm hk), if_neg hk, valAt_cut, if_neg hk]
  have hnd : (((k, v) :: cutL l k).map (·.1)).Nodup := by
    simp only [List.map_cons, List.nodup_cons]
    refine ⟨?_, cutL_nodup hn⟩
    intro hk
    obtain ⟨p, hp, e⟩ := List.mem_map.1 hk
    have := (List.mem_filter.1 hp).2
    simp [e] at this
  have oq : ∀ b, Owns (setμ μ q (encG ((k, v) :: cutL l k))) mem' q b → Owns μ mem d b ∨ Owns μ mem g b := by
    rintro b ⟨r1, v1, hl', _, hv', hb⟩
    rw [setμ_same] at hv'
    injection hv' with hv'
    subst hv'
    obtain ⟨k', a, n', c, hk', rfl⟩ := blks_grp hnd hb
    rw [hval] at hk'
    split at hk'
    · exact .inl (Od _ (by rw [hk']; simp [Value.ownBlock]))
    · obtain ⟨ys, hown', _⟩ := hrow k'
      exact .inr (Og _ (grp_blks hown' (by rw [hk']; simp [Value.ownBlock])))
  have om : ∀ b, Owns (setμ μ q (encG ((k, v) :: cutL l k))) mem' m b → Owns μ mem m b := by
    rintro b ⟨r1, v1, hl', _, hv', hb⟩
    rw [mo m _ hmu] at hv'
    injection hv' with hv'
    subst hv'
    exact ⟨_, _, hm, hr0, hmu, hb⟩
  have og : ∀ b, ¬ Owns (setμ μ q (encG ((k, v) :: cutL l k))) mem' g b := by
    rintro b ⟨r1, v1, hl', hlive, _⟩
    rw [lg] at hl'
    injection hl' with hl'
    subst hl'
    cases hlive
  have od : ∀ b, ¬ Owns (setμ μ q (encG ((k, v) :: cutL l k))) mem' d b := by
    rintro b ⟨r1, v1, hl', hlive, _⟩
    rw [ld] at hl'
    injection hl' with hl'
    subst hl'
    cases hlive
  have keepR : ∀ b, Owns μ mem d b ∨ Owns μ mem g b → w'.heap[b]? = w.heap[b]? := by
    intro b hO
    refine hh b (fun hO' => ?_)
    rcases hO with hO | hO
    · exact hdm (h.dis _ _ _ hO hO')
    · exact hgm (h.dis _ _ _ hO hO')
  refine ⟨?_, kp⟩
  refine Wp.upd (fun b => Owns μ mem m b) (fun x => x = q ∨ x = m ∨ x = d ∨ x = g) h kp ho ht hu (by rw [hz]; exact Nat.le_refl _) (fun b _ hb => hh b hb) (fun b hb => (h.sep m b hb).2) (fun b hb => by rw [hz]; exact h.Sb b hb) (fun _ hb => .inl hb) ?_ ?_ ?_ ?_ ?_ ?_
  · intro x hx
    simp only [not_or] at hx
    rw [look_cons, if_neg (Ne.symm hx.1), look_cons, if_neg (Ne.symm hx.2.1), look_cons, if_neg (Ne.symm hx.2.2.1), look_cons, if_neg (Ne.symm hx.2.2.2)]
  · intro x b hx hO
    exact ⟨fun hO' => hx (.inr (.inl (h.dis _ _ _ hO hO'))), (h.sep x b hO).1⟩
  · rintro x rx (rfl | rfl | rfl | rfl) hl
    · rw [lq] at hl
      injection hl with hl
      subst hl
      refine ⟨(k, v) :: cutL l k, hnd, setμ_same _ _ _, fun k' => ?_, fun k1 k2 b hne hb => ?_⟩
      · rw [hval]
        unfold updF
        split
        · refine ⟨xs, ownsRow_move hown (fun b hb => keepR b (.inl (Od b hb))), fun i hi j hj => ?_⟩
          obtain ⟨x, h1, h2⟩ := hxs i hi j hj
          exact ⟨x, h1, rep_keep kp.sub kp.wd _ _ h2⟩
        · obtain ⟨ys, hown', hys⟩ := hrow k'
          refine ⟨ys, ownsRow_move hown' (fun b hb => keepR b (.inr (Og b (grp_blks hown' hb)))), fun i hi j hj => ?_⟩
          obtain ⟨x, h1, h2⟩ := hys i hi j hj
          exact ⟨x, h1, rep_keep kp.sub kp.wd _ _ h2⟩
      · rw [hval] at hb ⊢
        split at hb
        · rename_i e1
          rw [if_neg (fun e2 => hne (e1.trans e2.symm))]
          intro hb'
          obtain ⟨ys, hown', _⟩ := hrow k2
          exact hgd (h.dis _ _ _ (Og b (grp_blks hown' hb')) (Od b hb))
        · split
          · intro hb'
            obtain ⟨ys, hown', _⟩ := hrow k1
            exact hgd (h.dis _ _ _ (Og b (grp_blks hown' hb)) (Od b hb'))
          · exact hdist k1 k2 b hne hb
    · rw [lm] at hl
      injection hl with hl
      subst hl
      exact hnew _ mo (setμ_same _ _ _)
    · rw [ld] at hl
      injection hl with hl
      subst hl
      trivial
    · rw [lg] at hl
      injection hl with hl
      subst hl
      trivial
  · rintro x b (rfl | rfl | rfl | rfl) hO
    · rcases oq b hO with hO | hO
      · exact h.sep d b hO
      · exact h.sep g b hO
    · exact h.sep _ b (om b hO)
    · exact absurd hO (od b)
    · exact absurd hO (og b)
  · rintro x x' b (rfl | rfl | rfl | rfl) (rfl | rfl | rfl | rfl) hO hO'
    · rfl
    · rcases oq b hO with h1 | h1
      · exact absurd (h.dis _ _ _ h1 (om b hO')) hdm
      · exact absurd (h.dis _ _ _ h1 (om b hO')) hgm
    · exact absurd hO' (od b)
    · exact absurd hO' (og b)
    · rcases oq b hO' with h1 | h1
      · exact absurd (h.dis _ _ _ h1 (om b hO)) hdm
      · exact absurd (h.dis _ _ _ h1 (om b hO)) hgm
    · rfl
    · exact absurd hO' (od b)
    · exact absurd hO' (og b)
    · exact absurd hO (od b)
    · exact absurd hO (od b)
    · exact absurd hO (od b)
    · exact absurd hO (od b)
    · exact absurd hO (og b)
    · exact absurd hO (og b)
    · exact absurd hO (og b)
    · exact absurd hO (og b)
  · rintro x x' b (rfl | rfl | rfl | rfl) hx' hO hO'
    · rcases oq b hO with h1 | h1
      · exact hx' (.inr (.inr (.inl (h.dis _ _ _ hO' h1))))
      · exact hx' (.inr (.inr (.inr (h.dis _ _ _ hO' h1))))
    · exact hx' (.inr (.inl (h.dis _ _ _ hO' (om b hO))))
    · exact absurd hO (od b)
    · exact absurd hO (og b)

/-- A nil slice is a row of one's own. -/
theorem Wp.nilRow (h : Wp F w S μ mem) {d : Nat} (hd : μ d = none) (e sz : Nat) (get : Nat → Nat → Cell) : Wp F w S (setμ μ d (.slice none 0 0)) ((d, .row e sz 0 get) :: mem) ∧ Kp w w S S μ (setμ μ d (.slice none 0 0)) := by
  have kp : Kp w w S S μ (setμ μ d (.slice none 0 0)) := ⟨fun _ h => h, fun _ _ => rfl, setμ_mono hd _⟩
  have od : ∀ b, ¬ Owns (setμ μ d (.slice none 0 0)) ((d, .row e sz 0 get) :: mem) d b := by
    intro b hO
    obtain ⟨_, hb⟩ := owns_cons_same hO
    simp [blks] at hb
  refine ⟨?_, kp⟩
  refine Wp.upd (fun _ => False) (fun x => x = d) h kp rfl rfl rfl (Nat.le_refl _) (fun _ _ _ => rfl) (fun _ hb => hb.elim) h.Sb (fun _ hb => .inl hb) ?_ ?_ ?_ ?_ ?_ ?_
  · intro x hx; rw [look_cons, if_neg (Ne.symm hx)]
  · intro x b _ hO; exact ⟨id, (h.sep x b hO).1⟩
  · rintro x r rfl hl
    rw [look_cons, if_pos rfl] at hl
    injection hl with hl
    subst hl
    exact ⟨_, [], setμ_same _ _ _, World.ownsRow_nil w 0 e sz, fun i hi => absurd hi (Nat.not_lt_zero i)⟩
  · rintro x b rfl hO; exact absurd hO (od b)
  · rintro x x' b rfl rfl hO; exact absurd hO (od b)
  · rintro x x' b rfl _ hO; exact absurd hO (od b)
end
end Go.Eng
