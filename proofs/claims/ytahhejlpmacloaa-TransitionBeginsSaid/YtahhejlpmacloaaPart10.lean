/- A program logic over abstract states, part AM: what a map of ints holds. -/
import Derived.Test.YtahhejlpmacloaaPart06
import Derived.Test.YtahhejlpmacloaaPart09
namespace Go.Eng
open Go

/-- What lies under a key. -/
def AM.at? (a : AM) (k : List Int) : Option Int := (idxA k a.es).map (·.2)

theorem AM.get_eq (a : AM) (k : List Int) : a.get k = (a.at? k).getD 0 := by
  unfold AM.get AM.at?
  cases idxA k a.es <;> rfl
theorem AM.has_eq (a : AM) (k : List Int) : a.has k = (a.at? k).isSome := by
  unfold AM.has AM.at?
  cases idxA k a.es <;> rfl

theorem idxA_mem {k : List Int} : ∀ {es : List MEnt}, (∃ e ∈ es, e.k = k) → ∃ p, idxA k es = some p
  | [], ⟨e, he, _⟩ => by cases he
  | x :: es, ⟨e, he, hk⟩ => by
    simp only [idxA]
    split
    · exact ⟨_, rfl⟩
    · rename_i hx
      rcases List.mem_cons.1 he with rfl | he
      · exact absurd hk hx
      · obtain ⟨p, hp⟩ := idxA_mem ⟨e, he, hk⟩
        exact ⟨_, by rw [hp]; rfl⟩

theorem AM.has_iff {a : AM} {k : List Int} : a.has k = true ↔ ∃ e ∈ a.es, e.k = k := by
  unfold AM.has
  constructor
  · intro h
    cases hi : idxA k a.es with
    | none => rw [hi] at h; cases h
    | some p =>
      obtain ⟨e, h1, h2, _⟩ := idxA_get hi
      exact ⟨e, List.mem_of_getElem? h1, h2⟩
  · intro h
    obtain ⟨p, hp⟩ := idxA_mem h
    rw [hp]
    rfl
theorem AM.hasR_eq (a : AM) (k : List Int) : a.hasR k = a.has k := by
  rw [Bool.eq_iff_iff, hasR_iff, AM.has_iff]

theorem nodup_key {l : List MEnt} (h : (l.map (·.k)).Nodup) {e e' : MEnt} (he : e ∈ l) (he' : e' ∈ l) (hk : e.k = e'.k) : e = e' := by
  induction l with
  | nil => cases he
  | cons x l ih =>
    simp only [List.map_cons, List.nodup_cons] at h
    rcases List.mem_cons.1 he with g1 | g1
    · rcases List.mem_cons.1 he' with g2 | g2
      · rw [g1, g2]
      · exact absurd (List.mem_map.2 ⟨e', g2, by rw [← hk, g1]⟩) h.1
    · rcases List.mem_cons.1 he' with g2 | g2
      · exact absurd (List.mem_map.2 ⟨e, g1, by rw [hk, g2]⟩) h.1
      · exact ih h.2 g1 g2
theorem nodup_birth {l : List MEnt} (h : (l.map (·.b)).Nodup) {e e' : MEnt} (he : e ∈ l) (he' : e' ∈ l) (hk : e.b = e'.b) : e = e' := by
  induction l with
  | nil => cases he
  | cons x l ih =>
    simp only [List.map_cons, List.nodup_cons] at h
    rcases List.mem_cons.1 he with g1 | g1
    · rcases List.mem_cons.1 he' with g2 | g2
      · rw [g1, g2]
      · exact absurd (List.mem_map.2 ⟨e', g2, by rw [← hk, g1]⟩) h.1
    · rcases List.mem_cons.1 he' with g2 | g2
      · exact absurd (List.mem_map.2 ⟨e, g1, by rw [hk, g2]⟩) h.1
      · exact ih h.2 g1 g2

theorem AM.at_mem {a : AM} (h : a.WF) {e : MEnt} (he : e ∈ a.es) : a.at? e.k = some e.v := by
  unfold AM.at?
  obtain ⟨p, hp⟩ := idxA_mem ⟨e, he, rfl⟩
  obtain ⟨e', h1, h2, h3⟩ := idxA_get hp
  have := nodup_key h.keys (List.mem_of_getElem? h1) he h2
  subst this
  rw [hp, Option.map_some, h3]
theorem AM.mem_at {a : AM} {k : List Int} {v : Int} (h : a.at? k = some v) : ∃ e ∈ a.es, e.k = k ∧ e.v = v := by
  unfold AM.at? at h
  cases hi : idxA k a.es with
  | none => rw [hi] at h; cases h
  | some p =>
    rw [hi] at h
    simp only [Option.map_some, Option.some.injEq] at h
    obtain ⟨e, h1, h2, h3⟩ := idxA_get hi
    exact ⟨e, List.mem_of_getElem? h1, h2, h3.trans h⟩
theorem AM.at_none {a : AM} {k : List Int} (h : ∀ e ∈ a.es, e.k ≠ k) : a.at? k = none := by
  cases ha : a.at? k with
  | none => rfl
  | some v =>
    obtain ⟨e, he, hk, _⟩ := AM.mem_at ha
    exact absurd hk (h e he)
theorem AM.get_mem {a : AM} (h : a.WF) {e : MEnt} (he : e ∈ a.es) : a.get e.k = e.v := by
  rw [AM.get_eq, AM.at_mem h he]
  rfl

/-- The entries behind a write. -/
theorem AM.mem_set {a : AM} (h : a.WF) {k : List Int} {v : Int} (e : MEnt) : e ∈ (a.set k v).es → (e.k = k ∧ e.v = v) ∨ (e.k ≠ k ∧ e ∈ a.es) := by
  intro he
  unfold AM.set at he
  split at he
  · rename_i p hp
    obtain ⟨e0, h1, h2, h3⟩ := idxA_get hp
    obtain ⟨j, hj⟩ := List.mem_iff_getElem?.1 he
    rw [List.getElem?_modify] at hj
    cases hg : a.es[j]? with
    | none => rw [hg] at hj; cases hj
    | some e' =>
      rw [hg] at hj
      simp only [Option.map_eq_map, Option.map_some, Option.some.injEq] at hj
      by_cases hpj : p.1 = j
      · rw [if_pos hpj] at hj
        subst hj hpj
        rw [h1] at hg
        injection hg with hg
        subst hg
        exact .inl ⟨h2, rfl⟩
      · rw [if_neg hpj] at hj
        subst hj
        refine .inr ⟨fun hk => ?_, List.mem_of_getElem? hg⟩
        have hee : e' = e0 := nodup_key h.keys (List.mem_of_getElem? hg) (List.mem_of_getElem? h1) (hk.trans h2.symm)
        subst hee
        obtain ⟨l1, q1⟩ := List.getElem?_eq_some_iff.1 hg
        obtain ⟨l2, q2⟩ := List.getElem?_eq_some_iff.1 h1
        have hn : (a.es.map (·.k)).Nodup := h.keys
        have : (a.es.map (·.k))[j]'(by simpa using l1) = (a.es.map (·.k))[p.1]'(by simpa using l2) := by simp [q1, q2]
        exact hpj ((List.getElem_inj hn).1 this).symm
  · rename_i hi
    rcases List.mem_append.1 he with he | he
    · exact .inr ⟨idxA_none hi e he, he⟩
    · rw [List.mem_singleton.1 he]
      exact .inl ⟨rfl, rfl⟩
theorem AM.set_has (a : AM) (k : List Int) (v : Int) : ∃ e ∈ (a.set k v).es, e.k = k ∧ e.v = v := by
  unfold AM.set
  split
  · rename_i p hp
    obtain ⟨e0, h1, h2, h3⟩ := idxA_get hp
    refine ⟨{ e0 with v := v }, List.mem_iff_getElem?.2 ⟨p.1, ?_⟩, h2, rfl⟩
    rw [List.getElem?_modify, h1]
    simp
  · exact ⟨_, List.mem_append_right _ (List.mem_singleton.2 rfl), rfl, rfl⟩
theorem AM.set_old {a : AM} {k : List Int} {v : Int} {e : MEnt} (he : e ∈ a.es) (hk : e.k ≠ k) : e ∈ (a.set k v).es := by
  unfold AM.set
  split
  · rename_i p hp
    obtain ⟨e0, h1, h2, h3⟩ := idxA_get hp
    obtain ⟨j, hj⟩ := List.mem_iff_getElem?.1 he
    refine List.mem_iff_getElem?.2 ⟨j, ?_⟩
    rw [List.getElem?_modify, hj]
    by_cases hpj : p.1 = j
    · subst hpj
      rw [h1] at hj
      injection hj with hj
      subst hj
      exact absurd h2 hk
    · simp [hpj]
  · exact List.mem_append_left _ he
theorem AM.at_set {a : AM} (h : a.WF) (k : List Int) (v : Int) (k' : List Int) : (a.set k v).at? k' = if k' = k then some v else a.at? k' := by
  have hw := h.set k v
  by_cases hk : k' = k
  · subst hk
    rw [if_pos rfl]
    obtain ⟨e, he, h1, h2⟩ := AM.set_has a k' v
    have := AM.at_mem hw he
    rw [h1, h2] at this
    exact this
  · rw [if_neg hk]
    cases ha : a.at? k' with
    | some u =>
      obtain ⟨e, he, h1, h2⟩ := AM.mem_at ha
      have := AM.at_mem hw (AM.set_old (v := v) he (by rw [h1]; exact hk))
      rw [h1, h2] at this
      exact this
    | none =>
      refine AM.at_none fun e he hek => ?_
      rcases AM.mem_set h e he with ⟨h1, _⟩ | ⟨_, h2⟩
      · exact hk (hek.symm.trans h1)
      · have := AM.at_mem h h2
        rw [hek, ha] at this
        cases this
theorem AM.at_del {a : AM} (h : a.WF) (k k' : List Int) : (a.del k).at? k' = if k' = k then none else a.at? k' := by
  have key : ∀ e, e ∈ (a.del k).es ↔ e ∈ a.es ∧ e.k ≠ k := by
    intro e
    unfold AM.del
    split
    · rename_i p hp
      obtain ⟨e0, h1, h2, h3⟩ := idxA_get hp
      obtain ⟨l2, q2⟩ := List.getElem?_eq_some_iff.1 h1
      constructor
      · intro he
        have hm := List.mem_of_mem_eraseIdx he
        refine ⟨hm, fun hk => ?_⟩
        have hee : e = e0 := nodup_key h.keys hm (List.mem_of_getElem? h1) (hk.trans h2.symm)
        subst hee
        rw [List.mem_eraseIdx_iff_getElem?] at he
        obtain ⟨j, hj1, hj2⟩ := he
        obtain ⟨l1, q1⟩ := List.getElem?_eq_some_iff.1 hj2
        have hn : (a.es.map (·.k)).Nodup := h.keys
        have : (a.es.map (·.k))[j]'(by simpa using l1) = (a.es.map (·.k))[p.1]'(by simpa using l2) := by simp [q1, q2]
        exact hj1 ((List.getElem_inj hn).1 this)
      · rintro ⟨he, hk⟩
        rw [List.mem_eraseIdx_iff_getElem?]
        obtain ⟨j, hj⟩ := List.mem_iff_getElem?.1 he
        refine ⟨j, fun hjp => ?_, hj⟩
        subst hjp
        rw [h1] at hj
        injection hj with hj
        subst hj
        exact hk h2
    · rename_i hi
      exact ⟨fun he => ⟨he, idxA_none hi e he⟩, fun he => he.1⟩
  have hw := h.del k
  by_cases hk : k' = k
  · subst hk
    rw [if_pos rfl]
    exact AM.at_none fun e he => ((key e).1 he).2
  · rw [if_neg hk]
    cases ha : a.at? k' with
    | some u =>
      obtain ⟨e, he, h1, h2⟩ := AM.mem_at ha
      have := AM.at_mem hw ((key e).2 ⟨he, by rw [h1]; exact hk⟩)
      rw [h1, h2] at this
      exact this
    | none =>
      refine AM.at_none fun e he hek => ?_
      have := AM.at_mem h ((key e).1 he).1
      rw [hek, ha] at this
      cases this

theorem AM.set_length {a : AM} {k : List Int} {v : Int} (h : a.has k = false) : (a.set k v).es.length = a.es.length + 1 := by
  unfold AM.has at h
  unfold AM.set
  cases hi : idxA k a.es with
  | none => simp
  | some p => rw [hi] at h; cases h

/-- Keys without repetition, all among others: no more of them. -/
theorem nodup_le {l l' : List (List Int)} (hn : l.Nodup) (hs : ∀ x ∈ l, x ∈ l') : l.length ≤ l'.length := by
  induction l generalizing l' with
  | nil => simp
  | cons x l ih =>
    rw [List.nodup_cons] at hn
    have hx := hs x List.mem_cons_self
    have h1 : ∀ y ∈ l, y ∈ l'.erase x := fun y hy => (List.mem_erase_of_ne (by rintro rfl; exact hn.1 hy)).2 (hs y (List.mem_cons_of_mem _ hy))
    have h2 := ih hn.2 h1
    rw [List.length_erase_of_mem hx] at h2
    have : 0 < l'.length := List.length_pos_of_mem hx
    simp only [List.length_cons]
    omega
theorem AM.len_le {a b : AM} (ha : a.WF) (h : ∀ e ∈ a.es, b.has e.k = true) : a.es.length ≤ b.es.length := by
  have := nodup_le (l := a.es.map (·.k)) (l' := b.es.map (·.k)) ha.keys (fun x hx => by
    obtain ⟨e, he, rfl⟩ := List.mem_map.1 hx
    obtain ⟨e', he', hk⟩ := AM.has_iff.1 (h e he)
    exact List.mem_map.2 ⟨e', he', hk⟩)
  simpa using this
end Go.Eng

/- A program logic over abstract states, part X: contracts whose result is not fixed by what came in. -/
set_option linter.unusedSimpArgs false
namespace Go.Eng
open Go

/-- What a function does where more than one thing may come of it: one of the results that R lets by. -/
def HoldsX (P : Program) (g : Nat) {X : Type} (sp : X → FSpec) (R : X → List AV → List Res → Prop) : Prop :=
  ∀ (args : List AV) (bs : List Res) (out : X → Out), (∀ x, sp x args bs = some (out x)) → (∀ x, All (out x).cond) →
    ∀ (w : World) (S : Nat → Prop) (μ : Mu) (vs : List Value), Wp (frOf w S μ bs.length) w S μ (idxMem 0 bs) → repAVs w S μ args vs → (∀ m, bs.length ≤ m → μ m = none) →
      Calls P g vs.toArray w fun e w' => ∃ x u S' μ', R x args bs ∧ e = .returned u ∧ Kp w w' S S' μ μ' ∧ Wp (frOf w S μ bs.length) w' S' μ' (out x).mem ∧ repAV w' S' μ' (out x).val u ∧ ∀ m, bs.length + 16 ≤ m → μ' m = none

section
variable {P : Program} {T : Tab} {w : World} {S : Nat → Prop} {μ : Mu}

theorem HoldsX.of {X : Type} (hT : TabOK P T) {g : Nat} {fn : Func} {c : Code} {sp : X → FSpec} {R : X → List AV → List Res → Prop} (hf : P.funcs[g]? = some fn) (hb : fn.body = some c) (N : Nat) (hN : fn.ntmps = N)
    (h : ∀ (args : List AV) (bs : List Res) (out : X → Out), (∀ x, sp x args bs = some (out x)) → (∀ x, All (out x).cond) → args.length ≤ N ∧ (∀ r ∈ bs, r.live = true) ∧ ∀ F : Fr, F.k = bs.length → W P F N c bs.length ⟨envOf 0 args, idxMem 0 bs⟩ (fun e nx s => ∃ x, R x args bs ∧ endK T fn.results.toList bs.length (out x) e nx s)) : HoldsX P g sp R := by
  intro args bs out hsp hc w S μ vs hw hr hμ
  obtain ⟨hlen, hbox, hW⟩ := h args bs out hsp hc
  have hvl : vs.length = args.length := by
    have : ∀ {l : List AV} {us : List Value}, repAVs w S μ l us → us.length = l.length := by
      intro l
      induction l with
      | nil => intro us h; rw [h]; rfl
      | cons x l ih => rintro us ⟨u, r, e, _, hl⟩; rw [e]; simp [ih hl]
    exact this hr
  refine calls_of_wp hf hb (wp_mono (hW (frOf w S μ bs.length) rfl _ w ⟨rfl, ?_, hμ, S, μ, hw, ?_, hμ, fun _ _ h => h⟩) ?_)
  · simp [hN]; omega
  · have := repEnv_args (w := w) (S := S) (μ := μ) (pre := []) rfl hr (fn.ntmps - vs.toArray.size)
    simpa using this
  · rintro e a' w' ⟨nx', s', ⟨x0, hx0, hk⟩, hR⟩
    have fin : (∃ v ρ, resultsAV T s' fn.results.toList = some v ∧ Match ρ bs.length (bs.length + 16) ⟨[(0, v)], s'.mem⟩ ⟨[(0, (out x0).val)], (out x0).mem⟩) →
        a'.defers = [] ∧ ∃ v, (results fn a'.tmps).run P w' = .ok v w' ∧ ∃ x u S' μ', R x args bs ∧ (Ending.returned v) = .returned u ∧ Kp w w' S S' μ μ' ∧ Wp (frOf w S μ bs.length) w' S' μ' (out x).mem ∧ repAV w' S' μ' (out x).val u ∧ ∀ m, bs.length + 16 ≤ m → μ' m = none := by
      rintro ⟨v, ρ, hv, hm⟩
      obtain ⟨hd, _, _, S', μ', hw', he', _, hmu⟩ := hR
      obtain ⟨u, h1, h2⟩ := results_ok hT hw' he' hv
      refine ⟨hd, u, h1, x0, u, S', renμ ρ μ', hx0, rfl, ⟨hw'.Sf, fun b hb => ?_, fun m x hx => ?_⟩, hw'.renamed (s := ⟨[(0, v)], s'.mem⟩) hm.mem (nodupB_ok hm.olds), ?_, fun m hmn => ?_⟩
      · refine hw'.grow.block b (hw.Sb b hb) ?_
        rintro ⟨j, x, hx, hbk⟩
        have hx' : μ j = some x := hx
        have hj : j < bs.length := by
          rcases Nat.lt_or_ge j bs.length with h | h
          · exact h
          · rw [hμ j h] at hx'; cases hx'
        have hO : Owns μ (idxMem 0 bs) j b := by
          have hlk : ∀ (l : List Res) (k j : Nat), j < l.length → ∃ r, look (idxMem k l) (k + j) = some r ∧ l[j]? = some r := by
            intro l
            induction l with
            | nil => intro k j hj; simp at hj
            | cons y l ih =>
              intro k j hj
              simp only [idxMem]
              rw [look_cons]
              cases j with
              | zero => simp
              | succ j =>
                rw [if_neg (by omega)]
                obtain ⟨r, h1, h2⟩ := ih (k + 1) j (by simpa using hj)
                exact ⟨r, by rw [show k + (j + 1) = k + 1 + j from by omega]; exact h1, by simpa using h2⟩
          obtain ⟨r, hl1, hl2⟩ := hlk bs 0 j hj
          rw [Nat.zero_add] at hl1
          exact ⟨_, x, hl1, hbox r (List.mem_of_getElem? hl2), hx', hbk⟩
        exact (hw.sep j b hO).1 hb
      · have hj : m < bs.length := by
          rcases Nat.lt_or_ge m bs.length with h | h
          · exact h
          · rw [hμ m h] at hx; cases hx
        simp [renμ, keepsB_ok hm.keeps m hj, hmu m x hx]
      · have he0 : repEnv w' S' μ' [(0, v)] #[u] := by
          intro i x hl
          rw [look_cons] at hl
          split at hl
          · rename_i e
            injection hl with hl
            subst e hl
            simpa using h2
          · simp [look] at hl
        have := rep_envM (s := ⟨[(0, v)], s'.mem⟩) he0 hm.env
        simpa using this 0 (out x0).val (by simp [look])
      · unfold renμ
        split
        · rename_i m' hl
          have := List.all_eq_true.1 hm.lt m (news_mem hl)
          rw [Nat.blt_eq] at this
          omega
        · rename_i hl
          have := List.all_eq_true.1 hm.lt m (news_mem hl)
          rw [Nat.blt_eq] at this
          omega
        · rfl
    cases e with
    | normal => exact fin hk
    | ret => exact fin hk
    | _ => exact hk.elim

/-- A call of such a function. -/
theorem callX_any {X : Type} {sp : X → FSpec} {R : X → List AV → List Res → Prop} {o : Oper} {s : St} {nb : Nat} {f : Operand} {args : Array Operand} {ats : Array TypeId} {g : Nat} {caps : List (Nat × Nat)} {c0 c1 : List Prop} {vs as : List AV} {seed ms0 ms : List Nat} {d d2 : List (Nat × Res)} {bs : List Res} {out : X → Out}
    (ho : o.op = .call { callee := .value f, args, argTypes := ats }) (hen : Enters P g) (hH : HoldsX P g sp R) (hf : arg s f = some (c0, .one (.clo g caps))) (hvs : argsOf s args.toList = some (c1, vs))
    (has : argAVs seed s.mem (vs ++ capAVs caps) = some (as, ms0, d)) (hmsd : reach (d ++ s.mem) 24 0 ms0 = ms) (hbs : locBoxes ms ms (d ++ s.mem) = some (bs, d2)) (hout : ∀ x, sp x as bs = some (out x))
    (hnd : nodupB ms = true) (hkl : ∀ x, keysLt (ms.length + 16) (out x).mem = true) (hal : ∀ x, allLive (out x).mem ms.length = true) (hc0 : All c0) (hc1 : All c1) (hc2 : ∀ x, All (out x).cond) :
    StepAny P o s (fun E => ∃ x, R x as bs ∧ E = ⟨[], renAV (nameOf ms nb) (out x).val, renMem (nameOf ms nb) (out x).mem ++ (d2 ++ d)⟩) (fun m => nb ≤ m ∧ m < nb + 16) := by
  intro F w S μ a hw he hnb K Q hK
  have hnd := nodupB_ok hnd
  obtain ⟨t, hext⟩ := reach_ext (mem := d ++ s.mem) (f := 24) (i := 0) (ms := ms0)
  rw [hmsd] at hext
  obtain ⟨us, hfe, hp⟩ := rep_arg he hf hc0
  have hav := repAVs_append (argsOf_ok he hvs hc1) (capAVs_ok (w := w) (S := S) hp)
  obtain ⟨S1, s1, w1, _, r1⟩ := argAVs_ok hw hav has
  obtain ⟨S2, s2, w2, l2, r2⟩ := locBoxes_ok (k := 0) w1 hbs (by simp)
  simp only [Nat.zero_add] at r2
  have k2 : Kp w w S1 S2 (locμ μ ms0) (locμ μ ms) := ⟨s2, fun _ _ => rfl, by rw [hext]; exact locμ_ext ms0 t⟩
  have keepAll : ∀ {l : List AV} {r : List Value}, repAVs w S1 (locμ μ ms0) l r → repAVs w S2 (locμ μ ms) l r := by
    intro l
    induction l with
    | nil => intro r h; exact h
    | cons x l ih => rintro r ⟨u, r', e, h, hl⟩; exact ⟨u, r', e, k2.av _ _ h, ih hl⟩
  have hloc := w2.loc hnd l2 r2
  have hcall := hH as bs out hout hc2 w S2 (locμ μ ms) (args.toList.map a.eval ++ us) hloc (keepAll r1) (fun m hm => by
    unfold locμ
    rw [List.getElem?_eq_none (by omega)])
  have hargs : args.map a.eval ++ us.toArray = (args.toList.map a.eval ++ us).toArray := by apply Array.ext'; simp
  have hrun : (execOp a.eval o).run P w = .ok (.enter g (args.toList.map a.eval ++ us).toArray) w := by
    simp only [execOp, ho]
    rw [Sem.run_bind]
    simp only [resolve, hfe, Deferred.ofValue, Sem.run_pure, Result.andThen_ok, invoke]
    rw [show (#[] ++ args.map a.eval : Array Value) = args.map a.eval from by simp, hargs]
    exact hen _ w
  unfold Oper.wp
  rw [hrun]
  refine Calls.mono hcall ?_
  rintro e w' ⟨x, u, S', μl, hR, rfl, kl, hwl, hvl, hμl⟩
  have hlv : ∀ (j m : Nat), ms[j]? = some m → ∃ (r : Res) (v : Value), look (d2 ++ (d ++ s.mem)) m = some r ∧ r.live = true ∧ μ m = some v := fun j m hj => by
    obtain ⟨r, r', g1, g2, _, _, _⟩ := r2 j m hj
    obtain ⟨v, hv⟩ := w2.mu_some g1 (isCont_live g2)
    exact ⟨r, v, g1, isCont_live g2, hv⟩
  obtain ⟨μ', hf', kp, hwf, hold⟩ := w2.called (nb := nb) hnd hlv (fun m h1 h2 => hnb m ⟨h1, h2⟩) kl hwl (keysLt_ok (hkl x)) (allLive_ok (hal x)) (fun m hm => hμl m (by rw [l2]; exact hm))
  have k0 : Kp w w S S2 μ μ := ⟨fun b hb => s2 b (s1 b hb), fun _ _ => rfl, fun _ _ h => h⟩
  refine hK _ u w' S' μ' ⟨x, hR, rfl⟩ (k0.trans kp) ?_ (ren_av hf' hvl) hold
  simpa [List.append_assoc] using hwf
end
end Go.Eng

/- A program logic over abstract states, part Y: a region that draws its order, in which one operation makes a block and waits for nobody. -/
namespace Go.Eng
open Go

def keysAt (f : Nat) (M : List (Nat × Res)) (i : Nat) (x : Item) : List Nat := match Nat.beq i f with
  | true => keysOf M
  | false => keysOf x.2.1.mem
def impF (f i : Nat) (x : Item) (j : Nat) (y : Item) : Bool := match Nat.beq i f with
  | true => Nat.blt f j && !isPure y.1.op
  | false => match Nat.beq j f with
    | true => Nat.blt f i && !isPure x.1.op
    | false => !isPure x.1.op && !isPure y.1.op
def conflF (ops : List Oper) (f : Nat) (M : List (Nat × Res)) (i : Nat) (x : Item) (j : Nat) (y : Item) : Bool :=
  meetB (optList x.1.dst) (usesOf ops y.1) || meetB (optList y.1.dst) (usesOf ops x.1) || meetB (optList x.1.dst) (optList y.1.dst) || impF f i x j y || meetB (keysAt f M i x) y.2.2 || meetB (keysAt f M j y) x.2.2
def pairsF (ops : List Oper) (f : Nat) (M : List (Nat × Res)) (x : Item) (i : Nat) : Nat → List Item → Bool
  | _, [] => true
  | k, y :: l => (!conflF ops f M i x k y || reachB ops 8 k i) && pairsF ops f M x i (k + 1) l
def checkF (ops : List Oper) (f : Nat) (M : List (Nat × Res)) : Nat → List Item → Bool
  | _, [] => true
  | i, x :: l => (Nat.beq i f || !isPure x.1.op || isNil x.2.1.mem) && (Nat.blt f i || !meetB (keysOf M) (keysOf x.2.1.mem)) && pairsF ops f M x i (i + 1) l && checkF ops f M (i + 1) l

def runItF (T : Tab) (G : List (Nat × FSpec)) (N : Nat) (ops : List Oper) (f : Nat) (v : AV) : List Oper → Nat → Nat → St → Option (List Item × St)
  | [], _, _, s => some ([], s)
  | o :: l, k, nb, s => forceN nb fun nb => match Nat.beq k f with
    | true => match runItF T G N ops f v l (k + 1) (nb + 16) (s.app o.dst ⟨[], v, []⟩) with
      | none => none
      | some (it, s') => some ((o, ⟨[], v, []⟩, []) :: it, s')
    | false => match stepEff T G N ops s nb o with
      | none => none
      | some E => match runItF T G N ops f v l (k + 1) (nb + 16) (s.app o.dst E) with
        | none => none
        | some (it, s') => some ((o, E, reads s o.op) :: it, s')

theorem pairsF_ok {ops : List Oper} {f : Nat} {M : List (Nat × Res)} {x : Item} {i : Nat} : ∀ {l : List Item} {k : Nat}, pairsF ops f M x i k l = true → ∀ j y, l[j]? = some y → conflF ops f M i x (k + j) y = true → reachB ops 8 (k + j) i = true
  | [], k, _, j, y, hj, _ => by simp at hj
  | z :: l, k, h, j, y, hj, hc => by
    simp only [pairsF, Bool.and_eq_true] at h
    cases j with
    | zero =>
      simp at hj
      subst hj
      have := h.1
      rw [Nat.add_zero] at hc
      rw [hc] at this
      simpa using this
    | succ j =>
      have := pairsF_ok h.2 j y (by simpa using hj) (by rw [show k + 1 + j = k + (j + 1) from by omega]; exact hc)
      rw [show k + (j + 1) = k + 1 + j from by omega]
      exact this

theorem meetB_no {l l' : List Nat} (h : meetB l l' = false) : ∀ x, x ∈ l → x ∉ l' := by
  intro x hx hx'
  rw [meetB_ok hx hx'] at h
  cases h

theorem checkF_ok {ops : List Oper} {f : Nat} {M : List (Nat × Res)} : ∀ {l : List Item} {k : Nat}, checkF ops f M k l = true → ∀ (i : Nat) (x : Item), l[i]? = some x → (k + i ≠ f → isPure x.1.op = true → x.2.1.mem = []) ∧ (k + i ≤ f → ∀ m, m ∈ keysOf M → m ∉ keysOf x.2.1.mem) ∧
      ∀ (j : Nat) (y : Item), l[j]? = some y → i < j → conflF ops f M (k + i) x (k + j) y = true → reachB ops 8 (k + j) (k + i) = true
  | [], k, _, i, x, hi => by simp at hi
  | z :: l, k, h, i, x, hi => by
    simp only [checkF, Bool.and_eq_true] at h
    obtain ⟨⟨⟨h1, h0⟩, h2⟩, h3⟩ := h
    cases i with
    | zero =>
      simp at hi
      subst hi
      refine ⟨fun hne hp => ?_, fun hle => meetB_no (by
        have hb : Nat.blt f k = false := by
          cases hb : Nat.blt f k with
          | false => rfl
          | true => rw [Nat.blt_eq] at hb; omega
        rw [hb] at h0
        simpa using h0), fun j y hj hlt hc => ?_⟩
      · have hne' : Nat.beq k f = false := by
          cases hb : Nat.beq k f with
          | false => rfl
          | true => exact absurd (Nat.eq_of_beq_eq_true hb) hne
        rw [hp, hne'] at h1
        simp only [Bool.not_true, Bool.false_or] at h1
        cases hm : z.2.1.mem with
        | nil => rfl
        | cons a b => rw [hm] at h1; cases h1
      · obtain ⟨j', rfl⟩ : ∃ j', j = j' + 1 := ⟨j - 1, by omega⟩
        rw [Nat.add_zero] at hc ⊢
        have := pairsF_ok h2 j' y (by simpa using hj) (by rw [show k + 1 + j' = k + (j' + 1) from by omega]; exact hc)
        rw [show k + (j' + 1) = k + 1 + j' from by omega]
        exact this
    | succ i =>
      obtain ⟨g1, g0, g2⟩ := checkF_ok h3 i x (by simpa using hi)
      refine ⟨fun hne => g1 (by omega), fun hle => g0 (by omega), fun j y hj hlt hc => ?_⟩
      obtain ⟨j', rfl⟩ : ∃ j', j = j' + 1 := ⟨j - 1, by omega⟩
      have := g2 j' y (by simpa using hj) (by omega) (by rw [show k + 1 + i = k + (i + 1) from by omega, show k + 1 + j' = k + (j' + 1) from by omega]; exact hc)
      rw [show k + (j' + 1) = k + 1 + j' from by omega, show k + (i + 1) = k + 1 + i from by omega]
      exact this

section
variable {P : Program} {T : Tab} {G : List (Nat × FSpec)} {N : Nat}

theorem stB_none' : ∀ (l : List Item) (k' : Nat) (s : St) (b : Nat → Bool), (∀ j, k' ≤ j → b j = false) → stB l k' b s = s := by
  intro l
  induction l with
  | nil => intros; rfl
  | cons z l ih => intro k' s b hb; simp only [stB]; rw [hb k' (Nat.le_refl _)]; exact ih _ _ _ (fun j hj => hb j (by omega))

theorem runItF_ok {ops : List Oper} {f : Nat} {v : AV} : ∀ {l : List Oper} {k nb : Nat} {s s' : St} {it : List Item}, runItF T G N ops f v l k nb s = some (it, s') →
    it.length = l.length ∧ s' = stB it k (fun _ => true) s ∧ ∀ i o, l[i]? = some o → (k + i = f ∧ it[i]? = some (o, ⟨[], v, []⟩, [])) ∨
      (k + i ≠ f ∧ ∃ E, it[i]? = some (o, E, reads (stB it k (fun j => decide (j < k + i)) s) o.op) ∧ stepEff T G N ops (stB it k (fun j => decide (j < k + i)) s) (nb + 16 * i) o = some E)
  | [], k, nb, s, s', it, h => by
    simp only [runItF, Option.some.injEq, Prod.mk.injEq] at h
    obtain ⟨rfl, rfl⟩ := h
    exact ⟨rfl, rfl, fun i o hi => by simp at hi⟩
  | o :: l, k, nb, s, s', it, h => by
    simp only [runItF, forceN_eq] at h
    have tail : ∀ {E : Eff} {rd : List Nat} {it1 : List Item}, (it1.length = l.length ∧ s' = stB it1 (k + 1) (fun _ => true) (s.app o.dst E) ∧ ∀ i o', l[i]? = some o' → (k + 1 + i = f ∧ it1[i]? = some (o', ⟨[], v, []⟩, [])) ∨
        (k + 1 + i ≠ f ∧ ∃ E', it1[i]? = some (o', E', reads (stB it1 (k + 1) (fun j => decide (j < k + 1 + i)) (s.app o.dst E)) o'.op) ∧ stepEff T G N ops (stB it1 (k + 1) (fun j => decide (j < k + 1 + i)) (s.app o.dst E)) (nb + 16 + 16 * i) o' = some E')) →
        ((o, E, rd) :: it1).length = (o :: l).length ∧ s' = stB ((o, E, rd) :: it1) k (fun _ => true) s ∧ ∀ i o', (o :: l)[i + 1]? = some o' → (k + (i + 1) = f ∧ ((o, E, rd) :: it1)[i + 1]? = some (o', ⟨[], v, []⟩, [])) ∨
        (k + (i + 1) ≠ f ∧ ∃ E', ((o, E, rd) :: it1)[i + 1]? = some (o', E', reads (stB ((o, E, rd) :: it1) k (fun j => decide (j < k + (i + 1))) s) o'.op) ∧ stepEff T G N ops (stB ((o, E, rd) :: it1) k (fun j => decide (j < k + (i + 1))) s) (nb + 16 * (i + 1)) o' = some E') := by
      rintro E rd it1 ⟨g1, g2, g3⟩
      refine ⟨by simp [g1], by simp only [stB]; exact g2, fun i o' hi => ?_⟩
      rcases g3 i o' (by simpa using hi) with ⟨e1, e2⟩ | ⟨e0, E', e1, e2⟩
      · exact .inl ⟨by omega, by simpa using e2⟩
      · refine .inr ⟨by omega, E', ?_, ?_⟩
        · simp only [List.getElem?_cons_succ, e1, stB]
          rw [show decide (k < k + (i + 1)) = true from by simp, show k + (i + 1) = k + 1 + i from by omega]
        · simp only [stB]
          rw [show decide (k < k + (i + 1)) = true from by simp, show k + (i + 1) = k + 1 + i from by omega, show nb + 16 * (i + 1) = nb + 16 + 16 * i from by omega]
          exact e2
    split at h
    · rename_i hb
      split at h
      · cases h
      rename_i it1 s1 h1
      simp only [Option.some.injEq, Prod.mk.injEq] at h
      obtain ⟨rfl, rfl⟩ := h
      obtain ⟨t1, t2, t3⟩ := tail (rd := []) (runItF_ok (k := k + 1) h1)
      refine ⟨t1, t2, fun i o' hi => ?_⟩
      cases i with
      | zero =>
        simp at hi
        subst hi
        exact .inl ⟨Nat.eq_of_beq_eq_true hb, rfl⟩
      | succ i => exact t3 i o' hi
    · rename_i hb
      split at h
      · cases h
      rename_i E hE
      split at h
      · cases h
      rename_i it1 s1 h1
      simp only [Option.some.injEq, Prod.mk.injEq] at h
      obtain ⟨rfl, rfl⟩ := h
      obtain ⟨t1, t2, t3⟩ := tail (rd := reads s o.op) (runItF_ok (k := k + 1) h1)
      refine ⟨t1, t2, fun i o' hi => ?_⟩
      cases i with
      | zero =>
        simp at hi
        subst hi
        have hne : k + 0 ≠ f := by
          intro e
          have hb' : Nat.beq k f = true := by rw [← e]; exact Nat.beq_refl k
          rw [hb'] at hb
          cases hb
        refine .inr ⟨hne, E, ?_, ?_⟩
        · simp only [List.getElem?_cons_zero, stB]
          rw [show decide (k < k + 0) = false from by simp]
          simp only
          rw [stB_none' _ _ _ _ (fun j hj => by simp; omega)]
        · simp only [stB]
          rw [show decide (k < k + 0) = false from by simp]
          simp only
          rw [stB_none' _ _ _ _ (fun j hj => by simp; omega)]
          simpa using hE
      | succ i => exact t3 i o' hi

theorem conflF_use {ops : List Oper} {f : Nat} {M : List (Nat × Res)} {i j : Nat} {x y : Item} {t : Nat} (h : x.1.dst = some t) (hu : t ∈ usesOf ops y.1) : conflF ops f M i x j y = true ∧ conflF ops f M j y i x = true := by
  have : meetB (optList x.1.dst) (usesOf ops y.1) = true := meetB_ok (x := t) (by simp [h, optList]) hu
  unfold conflF
  simp [this]
theorem conflF_dst {ops : List Oper} {f : Nat} {M : List (Nat × Res)} {i j : Nat} {x y : Item} {t : Nat} (h : x.1.dst = some t) (hu : y.1.dst = some t) : conflF ops f M i x j y = true ∧ conflF ops f M j y i x = true := by
  have h1 : meetB (optList x.1.dst) (optList y.1.dst) = true := meetB_ok (x := t) (by simp [h, optList]) (by simp [hu, optList])
  have h2 : meetB (optList y.1.dst) (optList x.1.dst) = true := meetB_ok (x := t) (by simp [hu, optList]) (by simp [h, optList])
  unfold conflF
  simp [h1, h2]
theorem conflF_imp {ops : List Oper} {f : Nat} {M : List (Nat × Res)} {i j : Nat} {x y : Item} (hi : i ≠ f) (hj : j ≠ f) (h : isPure x.1.op = false) (hu : isPure y.1.op = false) : conflF ops f M i x j y = true ∧ conflF ops f M j y i x = true := by
  have e1 : Nat.beq i f = false := by cases hb : Nat.beq i f with | false => rfl | true => exact absurd (Nat.eq_of_beq_eq_true hb) hi
  have e2 : Nat.beq j f = false := by cases hb : Nat.beq j f with | false => rfl | true => exact absurd (Nat.eq_of_beq_eq_true hb) hj
  unfold conflF impF
  simp [h, hu, e1, e2]
theorem conflF_f {ops : List Oper} {f : Nat} {M : List (Nat × Res)} {j : Nat} {x y : Item} (hj : f < j) (hu : isPure y.1.op = false) : conflF ops f M f x j y = true ∧ conflF ops f M j y f x = true := by
  have e1 : Nat.beq f f = true := Nat.beq_refl f
  have e2 : Nat.beq j f = false := by cases hb : Nat.beq j f with | false => rfl | true => have := Nat.eq_of_beq_eq_true hb; omega
  unfold conflF impF
  simp [hu, e2, hj]
theorem conflF_read {ops : List Oper} {f : Nat} {M : List (Nat × Res)} {i j : Nat} {x y : Item} {m : Nat} (h : m ∈ keysAt f M i x) (hu : m ∈ y.2.2) : conflF ops f M i x j y = true ∧ conflF ops f M j y i x = true := by
  have : meetB (keysAt f M i x) y.2.2 = true := meetB_ok h hu
  unfold conflF
  simp [this]

theorem same_toldF {ops : List Oper} {f : Nat} {M : List (Nat × Res)} {it : List Item} (hk : checkF ops f M 0 it = true) {b : Nat → Bool} (hb : ClosedB ops b) {i : Nat} {x : Item} {o : Oper} (hi : it[i]? = some x) (ho : ops[i]? = some o)
    (hr : ∀ e ∈ o.after.toList, Region.binds .any e = true → b e.on = true) (hbi : b i = false) {j : Nat} {y : Item} (hj : it[j]? = some y) (hc : conflF ops f M j y i x = true) (hc' : conflF ops f M i x j y = true) : b j = decide (j < i) := by
  rcases Nat.lt_trichotomy j i with h | h | h
  · have h1 := (checkF_ok hk j y hj).2.2 i x hi h (by simpa using hc)
    simp only [Nat.zero_add] at h1
    rw [reachB_ready hb ho hr h1]
    simp [h]
  · subst h
    simp [hbi]
  · have h1 := (checkF_ok hk i x hi).2.2 j y hj h (by simpa using hc')
    simp only [Nat.zero_add] at h1
    have : b j = false := by
      cases hbj : b j with
      | false => rfl
      | true => rw [reachB_ok hb 8 j i h1 hbj] at hbi; cases hbi
    rw [this]
    simp
    omega

theorem stB_take : ∀ {l : List Item} {k n : Nat} {b : Nat → Bool} {s : St}, (∀ j, k + n ≤ j → b j = false) → stB (l.take n) k b s = stB l k b s
  | [], k, n, b, s, _ => by simp [stB]
  | x :: l, k, 0, b, s, h => by
    rw [stB_none' _ _ _ _ (fun j hj => h j (by omega)), stB_none' _ _ _ _ (fun j hj => h j (by omega))]
  | x :: l, k, n + 1, b, s, h => by
    simp only [List.take_succ_cons, stB]
    exact stB_take (fun j hj => h j (by omega))

/-- What lies at the bottom lies beside what is laid later. -/
theorem stB_base {M : List (Nat × Res)} {m : Nat} {b : Nat → Bool} : ∀ {l : List Item} {k : Nat} {s s2 : St}, (∀ j x, l[j]? = some x → b (k + j) = true → ∀ m, m ∈ keysOf M → m ∉ keysOf x.2.1.mem) → look s2.mem m = look (M ++ s.mem) m → look (stB l k b s2).mem m = look (M ++ (stB l k b s).mem) m
  | [], k, s, s2, _, h => h
  | x :: l, k, s, s2, hd, h => by
    simp only [stB]
    refine stB_base (fun j y hj hbj => hd (j + 1) y (by simpa using hj) (by rw [show k + (j + 1) = k + 1 + j from by omega]; exact hbj)) ?_
    cases hbk : b k with
    | false => exact h
    | true =>
      have hd := hd 0 x rfl (by rw [Nat.add_zero]; exact hbk)
      simp only [app_mem]
      rw [look_append, look_append, h]
      by_cases hm : m ∈ keysOf M
      · rw [look_keys (hd m hm), look_append, look_append, look_keys (hd m hm)]
      · rw [look_keys hm, look_append, look_append, look_keys hm]

def baseF (f : Nat) (s s2 : St) (b : Nat → Bool) : St := match b f with
  | true => s2
  | false => s

theorem W.regionDrawF (f : Nat) (hT : TabOK P T) (hG : GOK P G) {F : Fr} {nx : Nat} {s s' s1 : St} {K : Exit → Nat → St → Prop} {id : Nat} {ops : Array Oper} {it : List Item} {M : List (Nat × Res)} {v : AV} {of : Oper}
    (hof : nth ops.toList f = some of) (hEf : ∀ s, stepEff T G N ops.toList s (nx + 16 * f) of = some ⟨[], v, M⟩)
    (h : runItF T G N ops.toList f v ops.toList 0 nx ⟨s.env, M ++ s.mem⟩ = some (it, s')) (hpre : runIt T G N ops.toList (ops.toList.take f) nx s = some (it.take f, s1)) (hk : (checkF ops.toList f M 0 it && backB 0 ops.toList) = true)
    (hmix : P.follows .mixedOrders = true) (hc : All (condsOf it)) (hy : K .normal (nx + 16 * ops.size) s') : W P F N (.region id ops true) nx s K := by
  rw [nth_eq] at hof
  rw [Bool.and_eq_true] at hk
  obtain ⟨hck, hbk⟩ := hk
  obtain ⟨hlen, hs', hit⟩ := runItF_ok (k := 0) h
  obtain ⟨_, _, hit1⟩ := runIt_ok (k := 0) hpre
  simp only [Nat.zero_add] at hit hit1
  have hfl : f < ops.size := by
    have := (List.getElem?_eq_some_iff.1 hof).1
    simpa using this
  have hitf : it[f]? = some (of, ⟨[], v, []⟩, []) := by
    rcases hit f of hof with ⟨_, h2⟩ | ⟨h2, _⟩
    · exact h2
    · exact absurd rfl h2
  intro a0 w0 hr0
  refine wp_region_any hmix ?_
  obtain ⟨hd0, hN0, hk0, S0, μ0, hw0, he0, hU0, hmu0⟩ := hr0
  have hF : ∀ j v, F.mu j = some v → j < nx := fun j v hj => by
    rcases Nat.lt_or_ge j nx with h | h
    · exact h
    · have := hmu0 j v hj
      rw [hU0 j h] at this
      cases this
  have hlen' : it.length = ops.size := by simpa using hlen
  suffices H : ∀ (fuel : Nat) (listed : Array Bool), listed.size = ops.size → left listed ≤ fuel → ClosedB ops.toList (fun j => listed.getD j false) → ∀ (a : Act) (w : World) (S : Nat → Prop) (μ : Mu), a.defers = [] → a.tmps.size = N →
      Wp F w S μ (stB it 0 (fun j => listed.getD j false) (baseF f s ⟨s.env, M ++ s.mem⟩ (fun j => listed.getD j false))).mem → repEnv w S μ (stB it 0 (fun j => listed.getD j false) (baseF f s ⟨s.env, M ++ s.mem⟩ (fun j => listed.getD j false))).env a.tmps →
      (∀ i, i < ops.size → listed.getD i false = false → ∀ m, nx + 16 * i ≤ m → m < nx + 16 * i + 16 → μ m = none) → (∀ m, nx + 16 * ops.size ≤ m → μ m = none) → (∀ j v, F.mu j = some v → μ j = some v) →
      wpAny P .any ops (fun e a' w' => ∃ nx' s', K e nx' s' ∧ RelN F N nx' s' a' w') fuel listed a w by
    have e : ∀ j, (Array.replicate ops.size false).getD j false = false := by
      intro j
      by_cases hlt : j < ops.size <;> simp [Array.getD, hlt]
    have eb : baseF f s ⟨s.env, M ++ s.mem⟩ (fun j => (Array.replicate ops.size false).getD j false) = s := by
      show (match (Array.replicate ops.size false).getD f false with | true => _ | false => s) = s
      rw [e]
    refine H ops.size _ (by simp) ?_ ?_ a0 _ S0 μ0 hd0 hN0 ?_ ?_ ?_ ?_ hmu0
    · unfold left
      simp
    · intro k o _ hb
      exact absurd (hb.symm.trans (e k)) (by simp)
    · rw [eb, stB_none e]
      exact Wp.heap hw0 rfl rfl rfl rfl
    · rw [eb, stB_none e]
      have k : Kp w0 { w0 with drawn := w0.drawn + 1 } S0 S0 μ0 μ0 := ⟨fun _ h => h, fun _ _ => rfl, fun _ _ h => h⟩
      exact repEnv_keep k he0
    · intro i _ _ m h1 _
      exact hU0 m (by omega)
    · intro m h1
      exact hU0 m (by omega)
  have endSt : ∀ listed : Array Bool, listed.size = ops.size → (∀ j, j < ops.size → listed.getD j false = true) → stB it 0 (fun j => listed.getD j false) (baseF f s ⟨s.env, M ++ s.mem⟩ (fun j => listed.getD j false)) = s' := by
    intro listed hsz hall
    have hb : baseF f s ⟨s.env, M ++ s.mem⟩ (fun j => listed.getD j false) = ⟨s.env, M ++ s.mem⟩ := by
      show (match listed.getD f false with | true => _ | false => s) = _
      rw [hall f hfl]
    rw [hb, hs']
    exact stB_congr fun j _ h2 => hall j (by omega)
  intro fuel
  induction fuel with
  | zero =>
    intro listed hsz hl hcl a w S μ hd hN hw he hU hU2 hmu
    have hall := left_zero (l := listed) (by omega)
    refine ⟨?_, ?_⟩
    · apply List.eq_nil_iff_forall_not_mem.2
      intro j hj
      have := (mem_ready.1 hj).1
      rw [hall] at this
      cases this
    · rw [endSt listed hsz (fun j hj => by
        have := hall j
        have hj : j < listed.size := by omega
        simpa [Array.getD, hj] using this)] at hw he
      exact ⟨_, s', hy, hd, hN, hk0, S, μ, hw, he, hU2, hmu⟩
  | succ fuel ih =>
    intro listed hsz hl hcl a w S μ hd hN hw he hU hU2 hmu
    refine ⟨fun hnil => ?_, fun i hi => ?_⟩
    · have hall : ∀ j, j < ops.size → listed.getD j false = true := by
        intro j
        induction j using Nat.strongRecOn with
        | ind j ihj =>
          intro hj
          cases hg : listed.getD j false with
          | true => rfl
          | false =>
            exfalso
            have hj' : j < listed.size := by omega
            have : j ∈ Region.ready .any ops listed := mem_ready.2 ⟨by simpa [Array.getD, hj'] using hg, ops[j], Array.getElem?_eq_getElem hj, fun e he hb => ihj _ (by
              have := backB_ok hbk j ops[j] (by simp [hj]) e (by simpa using he) hb
              omega) (by
              have := backB_ok hbk j ops[j] (by simp [hj]) e (by simpa using he) hb
              omega)⟩
            rw [hnil] at this
            cases this
      rw [endSt listed hsz hall] at hw he
      exact ⟨_, s', hy, hd, hN, hk0, S, μ, hw, he, hU2, hmu⟩
    · obtain ⟨hli, o, ho, hrd⟩ := mem_ready.1 hi
      have hio : i < ops.size := (Array.getElem?_eq_some_iff.1 ho).1
      have hil : i < listed.size := by omega
      have hbi : listed.getD i false = false := by simpa [Array.getD, hil] using hli
      have ho' : ops.toList[i]? = some o := by simpa using ho
      have hrd' : ∀ e ∈ o.after.toList, Region.binds .any e = true → listed.getD e.on false = true := fun e he => hrd e (by simpa using he)
      have hset : ∀ j, j ≠ i → (listed.setIfInBounds i true).getD j false = listed.getD j false := fun j hj => getD_set_ne false (Ne.symm hj)
      have hseti : (listed.setIfInBounds i true).getD i false = true := by simp [Array.getD, hil]
      have hcl' : ClosedB ops.toList (fun j => (listed.setIfInBounds i true).getD j false) := by
        intro k ok hok hk e he hb
        by_cases hki : k = i
        · subst hki
          rw [ho'] at hok
          injection hok with hok
          subst hok
          exact getD_set_true (hrd' e he hb)
        · have hk : listed.getD k false = true := (hset k hki).symm.trans hk
          exact getD_set_true (hcl k ok hok hk e he hb)
      have fresh : ∀ m, nx + 16 * i ≤ m → m < nx + 16 * i + 16 → μ m = none := hU i hio hbi
      -- the step, once its effect is known and what is told behind it
      have go : ∀ (E : Eff), stepEff T G N ops.toList (stB it 0 (fun j => listed.getD j false) (baseF f s ⟨s.env, M ++ s.mem⟩ (fun j => listed.getD j false))) (nx + 16 * i) o = some E → All E.cond →
          (∀ t, look (stB it 0 (fun j => (listed.setIfInBounds i true).getD j false) (baseF f s ⟨s.env, M ++ s.mem⟩ (fun j => (listed.setIfInBounds i true).getD j false))).env t = look ((stB it 0 (fun j => listed.getD j false) (baseF f s ⟨s.env, M ++ s.mem⟩ (fun j => listed.getD j false))).app o.dst E).env t) →
          (∀ m, look (stB it 0 (fun j => (listed.setIfInBounds i true).getD j false) (baseF f s ⟨s.env, M ++ s.mem⟩ (fun j => (listed.setIfInBounds i true).getD j false))).mem m = look ((stB it 0 (fun j => listed.getD j false) (baseF f s ⟨s.env, M ++ s.mem⟩ (fun j => listed.getD j false))).app o.dst E).mem m) →
          wpOp P ops (fun e a' w' => ∃ nx' s', K e nx' s' ∧ RelN F N nx' s' a' w') i (fun a w => wpAny P .any ops (fun e a' w' => ∃ nx' s', K e nx' s' ∧ RelN F N nx' s' a' w') fuel (listed.setIfInBounds i true) a w) a w := by
        intro E hE hcE envE memE
        have step := stepEff_ok hT hG hE hd hN hw he fresh hcE (next := wpAny P .any ops (fun e a' w' => ∃ nx' s', K e nx' s' ∧ RelN F N nx' s' a' w') fuel (listed.setIfInBounds i true))
          (Q := fun e a' w' => ∃ nx' s', K e nx' s' ∧ RelN F N nx' s' a' w') (fun a' w' S' μ' d1 d2 d3 d4 d5 => by
            refine ih _ (by simpa using hsz) (by have := left_set hli; omega) hcl' a' w' S' μ' d1 d2 (d3.same memE) (repEnv_same d4 envE) (fun j hj hbj m h1 h2 => ?_) (fun m h1 => ?_) (fun j v hj => ?_)
            · have hji : j ≠ i := fun e => by subst e; rw [hseti] at hbj; cases hbj
              rw [d5 m (by omega)]
              exact hU j hj (by rw [← hset j hji]; exact hbj) m h1 h2
            · rw [d5 m (by omega)]
              exact hU2 m h1
            · have := hF j v hj
              rw [d5 j (by omega)]
              exact hmu j v hj)
        unfold wpOp
        rw [ho]
        exact step
      by_cases hif : i = f
      · -- the free one
        subst hif
        rw [ho'] at hof
        injection hof with hof
        subst hof
        have eb0 : baseF i s ⟨s.env, M ++ s.mem⟩ (fun j => listed.getD j false) = s := by
          show (match listed.getD i false with | true => _ | false => s) = s
          rw [hbi]
        have eb1 : baseF i s ⟨s.env, M ++ s.mem⟩ (fun j => (listed.setIfInBounds i true).getD j false) = ⟨s.env, M ++ s.mem⟩ := by
          show (match (listed.setIfInBounds i true).getD i false with | true => _ | false => s) = _
          rw [hseti]
        refine go ⟨[], v, M⟩ (hEf _) trivial (fun t => ?_) (fun m => ?_)
        · rw [eb0, eb1, app_env, look_putEnv]
          split
          · rename_i hd
            refine stB_last (i := i) hitf hd (by rw [Nat.zero_add]; exact hseti) fun j y hj hlt hdj => ?_
            have := conflF_dst (ops := ops.toList) (f := i) (M := M) (i := j) (j := i) hdj (y := (o, ⟨[], v, []⟩, [])) hd
            rw [Nat.zero_add]
            refine (hset j (by omega)).trans ?_
            rw [same_toldF hck (b := fun j => listed.getD j false) hcl hitf ho' hrd' hbi hj this.1 this.2]
            simp
            omega
          · rename_i hd
            refine stB_env rfl fun j y hj hdj => ?_
            rw [Nat.zero_add]
            refine hset j fun e => ?_
            subst e
            rw [hj] at hitf
            injection hitf with hitf
            subst hitf
            exact hd hdj
        · have hdisj : ∀ j x, it[j]? = some x → listed.getD (0 + j) false = true → ∀ m, m ∈ keysOf M → m ∉ keysOf x.2.1.mem := by
            intro j x hj hbj m hm
            rw [Nat.zero_add] at hbj
            rcases Nat.lt_or_ge i j with hlt | hge
            · have hmem : x.2.1.mem = [] := by
                cases hp : isPure x.1.op with
                | true => exact (checkF_ok hck j x hj).1 (by omega) hp
                | false =>
                  have := conflF_f (ops := ops.toList) (M := M) hlt (x := (o, ⟨[], v, []⟩, [])) (y := x) hp
                  have := same_toldF hck (b := fun j => listed.getD j false) hcl hitf ho' hrd' hbi hj this.2 this.1
                  rw [hbj] at this
                  simp at this
                  omega
              rw [hmem]
              exact List.not_mem_nil
            · exact (checkF_ok hck j x hj).2.1 (by omega) m hm
          rw [eb0, eb1, app_mem, ← stB_base (s2 := ⟨s.env, M ++ s.mem⟩) hdisj rfl]
          refine stB_name rfl fun j y hj hmk => ?_
          rw [Nat.zero_add]
          refine hset j fun e => ?_
          subst e
          rw [hj] at hitf
          injection hitf with hitf
          subst hitf
          cases hmk
      · -- another
        have ebb : baseF f s ⟨s.env, M ++ s.mem⟩ (fun j => (listed.setIfInBounds i true).getD j false) = baseF f s ⟨s.env, M ++ s.mem⟩ (fun j => listed.getD j false) := by
          show (match (listed.setIfInBounds i true).getD f false with | true => _ | false => s) = (match listed.getD f false with | true => _ | false => s)
          rw [hset f (fun e => hif e.symm)]
        obtain ⟨E, hxi, hE⟩ : ∃ E, it[i]? = some (o, E, reads (stB it 0 (fun j => decide (j < i)) ⟨s.env, M ++ s.mem⟩) o.op) ∧ stepEff T G N ops.toList (stB it 0 (fun j => decide (j < i)) ⟨s.env, M ++ s.mem⟩) (nx + 16 * i) o = some E := by
          rcases hit i o ho' with ⟨h1, _⟩ | ⟨_, h2⟩
          · exact absurd h1 hif
          · exact h2
        generalize hrdl : reads (stB it 0 (fun j => decide (j < i)) ⟨s.env, M ++ s.mem⟩) o.op = rd at hxi
        have agree : ∀ {j : Nat} {y : Item}, it[j]? = some y → conflF ops.toList f M j y i (o, E, rd) = true → conflF ops.toList f M i (o, E, rd) j y = true → listed.getD j false = decide (j < i) :=
          fun hj h1 h2 => same_toldF hck (b := fun j => listed.getD j false) hcl hxi ho' hrd' hbi hj h1 h2
        have pureMem := (checkF_ok hck i _ hxi).1 (by omega)
        have notPure : ∀ {j : Nat} {y : Item}, it[j]? = some y → y.2.1.mem ≠ [] → j ≠ f ∧ isPure y.1.op = false := by
          intro j y hj hm
          have hjf : j ≠ f := by
            rintro rfl
            rw [hitf] at hj
            injection hj with hj
            subst hj
            exact hm rfl
          refine ⟨hjf, ?_⟩
          cases hpy : isPure y.1.op with
          | false => rfl
          | true => exact absurd ((checkF_ok hck j y hj).1 (by omega) hpy) hm
        have envs : ∀ (b0 b1 : St), b0.env = b1.env → ∀ t ∈ usesOf ops.toList o, look (stB it 0 (fun j => decide (j < i)) b0).env t = look (stB it 0 (fun j => listed.getD j false) b1).env t := by
          intro b0 b1 hb t ht
          refine stB_env (by rw [hb]) fun j y hj hd => ?_
          have := conflF_use (ops := ops.toList) (f := f) (M := M) (i := j) (j := i) hd (y := (o, E, rd)) ht
          rw [Nat.zero_add]
          exact (agree hj this.1 this.2).symm
        have mems : ∀ (b0 : St), isPure o.op = false → (stB it 0 (fun j => decide (j < i)) b0).mem = (stB it 0 (fun j => listed.getD j false) b0).mem := by
          intro b0 hp
          refine stB_mem rfl fun j y hj hm => ?_
          obtain ⟨hjf, hpy⟩ := notPure hj hm
          have := conflF_imp (ops := ops.toList) (f := f) (M := M) (i := j) (j := i) hjf hif hpy (y := (o, E, rd)) hp
          rw [Nat.zero_add]
          exact (agree hj this.1 this.2).symm
        have names : ∀ (b0 b1 : St) (m : Nat), look b0.mem m = look b1.mem m → m ∈ rd → look (stB it 0 (fun j => decide (j < i)) b0).mem m = look (stB it 0 (fun j => listed.getD j false) b1).mem m := by
          intro b0 b1 m hb hm
          refine stB_name hb fun j y hj hmk => ?_
          have hjf : j ≠ f := by
            rintro rfl
            rw [hitf] at hj
            injection hj with hj
            subst hj
            cases hmk
          have hka : m ∈ keysAt f M j y := by
            unfold keysAt
            cases hb : Nat.beq j f with
            | true => exact absurd (Nat.eq_of_beq_eq_true hb) hjf
            | false => exact hmk
          have := conflF_read (ops := ops.toList) (f := f) (M := M) (i := j) (j := i) hka (y := (o, E, rd)) hm
          rw [Nat.zero_add]
          exact (agree hj this.1 this.2).symm
        have hE' : stepEff T G N ops.toList (stB it 0 (fun j => listed.getD j false) (baseF f s ⟨s.env, M ++ s.mem⟩ (fun j => listed.getD j false))) (nx + 16 * i) o = some E := by
          cases hbf : listed.getD f false with
          | true =>
            have eb : baseF f s ⟨s.env, M ++ s.mem⟩ (fun j => listed.getD j false) = ⟨s.env, M ++ s.mem⟩ := by
              show (match listed.getD f false with | true => _ | false => s) = _
              rw [hbf]
            rw [eb]
            exact stepEff_congr hE (envs _ _ rfl) (mems _) (fun hp => ⟨pureMem hp, fun m hm => names _ _ m rfl (by rw [← hrdl]; exact hm)⟩)
          | false =>
            have eb : baseF f s ⟨s.env, M ++ s.mem⟩ (fun j => listed.getD j false) = s := by
              show (match listed.getD f false with | true => _ | false => s) = s
              rw [hbf]
            rw [eb]
            rcases Nat.lt_or_ge i f with hlt | hge
            · obtain ⟨E2, g1, g2⟩ := hit1 i o (by rw [List.getElem?_take, if_pos hlt]; exact ho')
              rw [List.getElem?_take, if_pos hlt, hxi] at g1
              injection g1 with g1
              injection g1 with _ g1
              injection g1 with g1 g3
              subst g1
              rw [stB_take (fun j hj => by simp; omega)] at g2 g3
              exact stepEff_congr g2 (envs _ _ rfl) (mems _) (fun hp => ⟨pureMem hp, fun m hm => names _ _ m rfl (by rw [g3]; exact hm)⟩)
            · have hgt : f < i := by omega
              have hpu : isPure o.op = true := by
                cases hp : isPure o.op with
                | true => rfl
                | false =>
                  have := conflF_f (ops := ops.toList) (M := M) hgt (x := (of, ⟨[], v, []⟩, [])) (y := (o, E, rd)) hp
                  have := agree hitf this.1 this.2
                  rw [hbf] at this
                  simp at this
                  omega
              refine stepEff_congr hE (envs _ _ rfl) (fun hp => by rw [hpu] at hp; cases hp) (fun hp => ⟨pureMem hp, fun m hm => ?_⟩)
              rw [hrdl] at hm
              have hnm : m ∉ keysOf M := by
                intro hmM
                have hka : m ∈ keysAt f M f (of, ⟨[], v, []⟩, []) := by
                  unfold keysAt
                  rw [Nat.beq_refl]
                  exact hmM
                have := conflF_read (ops := ops.toList) (j := i) hka (y := (o, E, rd)) hm
                have := agree hitf this.1 this.2
                rw [hbf] at this
                simp at this
                omega
              refine names _ _ m ?_ hm
              show look (M ++ s.mem) m = look s.mem m
              rw [look_append, look_keys hnm]
        refine go E hE' (condsOf_at hc hxi) (fun t => ?_) (fun m => ?_)
        · rw [ebb, app_env, look_putEnv]
          split
          · rename_i hd
            refine stB_last (i := i) hxi hd (by rw [Nat.zero_add]; exact hseti) fun j y hj hlt hdj => ?_
            have := conflF_dst (ops := ops.toList) (f := f) (M := M) (i := j) (j := i) hdj (y := (o, E, rd)) hd
            rw [Nat.zero_add]
            refine (hset j (by omega)).trans ?_
            rw [agree hj this.1 this.2]
            simp
            omega
          · rename_i hd
            refine stB_env rfl fun j y hj hdj => ?_
            rw [Nat.zero_add]
            refine hset j fun e => ?_
            subst e
            rw [hj] at hxi
            injection hxi with hxi
            subst hxi
            exact hd hdj
        · rw [ebb]
          congr 1
          rw [app_mem]
          by_cases hm : E.mem = []
          · rw [hm, List.nil_append]
            refine stB_mem rfl fun j y hj hmj => ?_
            rw [Nat.zero_add]
            refine hset j fun e => ?_
            subst e
            rw [hj] at hxi
            injection hxi with hxi
            subst hxi
            exact hmj hm
          · have hpo : isPure o.op = false := by
              cases hpy : isPure o.op with
              | false => rfl
              | true => exact absurd (pureMem hpy) hm
            refine stB_more (i := i) hxi (by rw [Nat.zero_add]; exact hbi) (by rw [Nat.zero_add]; exact hseti) (fun j hj => hset j (by omega)) fun j y hj hlt hmj => ?_
            obtain ⟨hjf, hpy⟩ := notPure hj hmj
            have := conflF_imp (ops := ops.toList) (f := f) (M := M) (i := j) (j := i) hjf hif hpy (y := (o, E, rd)) hpo
            rw [Nat.zero_add, agree hj this.1 this.2]
            simp
            omega

theorem runItF_nil {ops : List Oper} {f k nb : Nat} {v : AV} {s : St} : runItF T G N ops f v [] k nb s = some ([], s) := rfl
theorem runItF_cons {ops l : List Oper} {f k nb : Nat} {v : AV} {o : Oper} {s s' : St} {E : Eff} {it : List Item} (hk : Nat.beq k f = false) (hE : stepEff T G N ops s nb o = some E) (h : runItF T G N ops f v l (k + 1) (nb + 16) (s.app o.dst E) = some (it, s')) :
    runItF T G N ops f v (o :: l) k nb s = some ((o, E, reads s o.op) :: it, s') := by
  simp [runItF, forceN_eq, hk, hE, h]
theorem runItF_free {ops l : List Oper} {f k nb : Nat} {v : AV} {o : Oper} {s s' : St} {it : List Item} (hk : Nat.beq k f = true) (h : runItF T G N ops f v l (k + 1) (nb + 16) (s.app o.dst ⟨[], v, []⟩) = some (it, s')) :
    runItF T G N ops f v (o :: l) k nb s = some ((o, ⟨[], v, []⟩, []) :: it, s') := by
  simp [runItF, forceN_eq, hk, h]
end
end Go.Eng
