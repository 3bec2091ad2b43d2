import Derived.Test.YteoncjaiigfpaaaGreatDoorAb4
set_option linter.all false
namespace Go.Ab

/-! What stands ahead of what. -/

theorem aheadOf_fold (acc : List Nat) (j : Nat) : ∀ (es : List Edge) (s : Nat),
    (es.foldl (fun s e => if Region.binds .any e then s ||| (2 ^ e.on ||| acc.getD e.on 0) else s) s).testBit j = true ↔
      s.testBit j = true ∨ ∃ e ∈ es, Region.binds .any e = true ∧ (e.on = j ∨ (acc.getD e.on 0).testBit j = true) := by
  intro es
  induction es with
  | nil => intro s; simp
  | cons e es ih =>
    intro s
    rw [List.foldl_cons, ih]
    by_cases hb : Region.binds .any e = true
    · rw [if_pos hb]
      simp only [Nat.testBit_or, Nat.testBit_two_pow, Bool.or_eq_true, decide_eq_true_eq, List.mem_cons]
      constructor
      · rintro ((h | h | h) | ⟨e', h1, h2, h3⟩)
        · exact .inl h
        · exact .inr ⟨e, .inl rfl, hb, .inl h⟩
        · exact .inr ⟨e, .inl rfl, hb, .inr h⟩
        · exact .inr ⟨e', .inr h1, h2, h3⟩
      · rintro (h | ⟨e', rfl | h1, h2, h3⟩)
        · exact .inl (.inl h)
        · rcases h3 with h3 | h3
          · exact .inl (.inr (.inl h3))
          · exact .inl (.inr (.inr h3))
        · exact .inr ⟨e', h1, h2, h3⟩
    · rw [if_neg hb]
      simp only [List.mem_cons]
      constructor
      · rintro (h | ⟨e', h1, h2, h3⟩)
        · exact .inl h
        · exact .inr ⟨e', .inr h1, h2, h3⟩
      · rintro (h | ⟨e', rfl | h1, h2, h3⟩)
        · exact .inl h
        · exact absurd h2 hb
        · exact .inr ⟨e', h1, h2, h3⟩

theorem aheadOf_bit (acc : List Nat) (o : Oper) (j : Nat) : (aheadOf acc o).testBit j = true ↔ ∃ e ∈ o.after.toList, Region.binds .any e = true ∧ (e.on = j ∨ (acc.getD e.on 0).testBit j = true) := by
  unfold aheadOf
  rw [aheadOf_fold]
  simp

theorem aheads_spec : ∀ (os : List Oper) (acc : List Nat), (aheads os acc).length = acc.length + os.length ∧ (∀ i, i < acc.length → (aheads os acc)[i]? = acc[i]?) ∧
    ∀ j o, os[j]? = some o → (aheads os acc)[acc.length + j]? = some (aheadOf ((aheads os acc).take (acc.length + j)) o) := by
  intro os
  induction os with
  | nil => intro acc; refine ⟨by simp [aheads], fun i hi => rfl, fun j o h => by simp at h⟩
  | cons o os ih =>
    intro acc
    obtain ⟨h1, h2, h3⟩ := ih (acc ++ [aheadOf acc o])
    simp only [aheads]
    refine ⟨by rw [h1]; simp; omega, fun i hi => ?_, fun j o' hj => ?_⟩
    · rw [h2 i (by simp; omega), List.getElem?_append_left hi]
    · cases j with
      | zero =>
        simp only [List.getElem?_cons_zero, Option.some.injEq] at hj
        subst hj
        rw [Nat.add_zero, h2 acc.length (by simp)]
        have : (aheads os (acc ++ [aheadOf acc o])).take acc.length = acc := by
          apply List.ext_getElem?
          intro i
          rw [List.getElem?_take]
          split
          · next hi => rw [h2 i (by simp; omega), List.getElem?_append_left hi]
          · next hi => rw [List.getElem?_eq_none (by omega)]
        rw [this]
        simp
      | succ j =>
        have := h3 j o' (by simpa using hj)
        simp only [List.length_append, List.length_cons, List.length_nil] at this
        rw [show acc.length + (j + 1) = acc.length + (0 + 1) + j from by omega]
        simpa using this

theorem ah_bit {l : List Oper} {i j : Nat} {o : Oper} (ho : l[i]? = some o) (h : ((aheads l []).getD i 0).testBit j = true) :
    ∃ e ∈ o.after.toList, Region.binds .any e = true ∧ (e.on = j ∨ ((aheads l []).getD e.on 0).testBit j = true) := by
  have h1 := (aheads_spec l []).2.2 i o ho
  simp only [List.length_nil, Nat.zero_add] at h1
  rw [List.getD_eq_getElem?_getD, h1, Option.getD_some, aheadOf_bit] at h
  obtain ⟨e, h2, h3, h4⟩ := h
  refine ⟨e, h2, h3, h4.imp id fun h5 => ?_⟩
  rw [List.getD_eq_getElem?_getD, List.getElem?_take] at h5
  rw [List.getD_eq_getElem?_getD]
  split at h5
  · exact h5
  · simp at h5

theorem ah_edge {l : List Oper} {i : Nat} {o : Oper} (ho : l[i]? = some o) {e : Edge} (he : e ∈ o.after.toList) (hb : Region.binds .any e = true) : ((aheads l []).getD i 0).testBit e.on = true := by
  have h1 := (aheads_spec l []).2.2 i o ho
  simp only [List.length_nil, Nat.zero_add] at h1
  rw [List.getD_eq_getElem?_getD, h1, Option.getD_some, aheadOf_bit]
  exact ⟨e, he, hb, .inl rfl⟩

theorem edgesBack_spec : ∀ {os : List Oper} {k : Nat}, edgesBack os k = true → ∀ {j : Nat} {o : Oper}, os[j]? = some o → ∀ e ∈ o.after.toList, Region.binds .any e = true → e.on < k + j
  | [], _, _, j, o, h, _, _, _ => by simp at h
  | x :: xs, k, hb, j, o, h, e, he, hbe => by
    simp only [edgesBack, Bool.and_eq_true, List.all_eq_true] at hb
    cases j with
    | zero =>
      simp only [List.getElem?_cons_zero, Option.some.injEq] at h
      subst h
      have := hb.1 e he
      simp [hbe] at this
      omega
    | succ j =>
      have := edgesBack_spec hb.2 (j := j) (by simpa using h) e he hbe
      omega

/-- Who stands ahead of one that stands ahead stands ahead. -/
theorem ah_trans {l : List Oper} (hback : edgesBack l 0 = true) {i j k : Nat} (h : ((aheads l []).getD i 0).testBit j = true) (h' : ((aheads l []).getD j 0).testBit k = true) : ((aheads l []).getD i 0).testBit k = true := by
  induction i using Nat.strongRecOn generalizing j with
  | _ i ih =>
    cases ho : l[i]? with
    | none =>
      have hlen := (aheads_spec l []).1
      have : (aheads l [])[i]? = none := by
        rw [List.getElem?_eq_none_iff] at ho ⊢
        simp at hlen
        omega
      rw [List.getD_eq_getElem?_getD, this] at h
      simp at h
    | some o =>
      have h1 := (aheads_spec l []).2.2 i o ho
      simp only [List.length_nil, Nat.zero_add] at h1
      rw [List.getD_eq_getElem?_getD, h1, Option.getD_some, aheadOf_bit] at h ⊢
      obtain ⟨e, h2, h3, h4⟩ := h
      refine ⟨e, h2, h3, ?_⟩
      have htake : ∀ x, (((aheads l []).take i).getD e.on 0).testBit x = true ↔ e.on < i ∧ ((aheads l []).getD e.on 0).testBit x = true := by
        intro x
        rw [List.getD_eq_getElem?_getD, List.getElem?_take, List.getD_eq_getElem?_getD]
        split
        · next hlt => simp [hlt]
        · next hlt => simp [hlt]
      rcases h4 with h4 | h4
      · subst h4
        have hlt := edgesBack_spec hback ho e h2 h3
        exact .inr ((htake k).2 ⟨by omega, h'⟩)
      · obtain ⟨hlt, h5⟩ := (htake j).1 h4
        exact .inr ((htake k).2 ⟨hlt, ih e.on hlt h5 h'⟩)

/-! The plan. -/

theorem order_spec {l : List Oper} {ah : List Nat} : ∀ {p : List Step} {seen : Nat}, planOrder l ah seen p = true → ∀ {q : Nat} {s : Step}, p[q]? = some s →
    (∀ j, (ah.getD s.i 0).testBit j = true → seen.testBit j = true ∨ ∃ q' s', q' < q ∧ p[q']? = some s' ∧ s'.i = j) ∧
    (seen.testBit s.i = false ∧ ∀ q' s', q' < q → p[q']? = some s' → s'.i ≠ s.i) ∧ s.heavy = heavy (l.getD s.i default).op ∧
    ∀ g b, (l.getD s.i default).guard = some (g, b) → (ah.getD s.i 0).testBit g = true
  | [], _, _, q, s, h => by simp at h
  | x :: xs, seen, hp, q, s, h => by
    simp only [planOrder, Bool.and_eq_true] at hp
    obtain ⟨⟨⟨⟨h1, h2⟩, h3⟩, h4⟩, h5⟩ := hp
    cases q with
    | zero =>
      simp only [List.getElem?_cons_zero, Option.some.injEq] at h
      subst h
      refine ⟨fun j hj => .inl ?_, ⟨by simpa using h2, fun q' s' hq => by omega⟩, by simpa using h3, fun g b hg => by rw [hg] at h4; simpa using h4⟩
      have h1' : (ah.getD x.i 0) &&& seen = ah.getD x.i 0 := by simpa using h1
      have := congrArg (fun n => n.testBit j) h1'
      simp only [Nat.testBit_and, hj, Bool.true_and] at this
      exact this
    | succ q =>
      obtain ⟨g1, ⟨g2, g3⟩, g4, g5⟩ := order_spec h5 (q := q) (s := s) (by simpa using h)
      rw [Nat.testBit_or, Nat.testBit_two_pow, Bool.or_eq_false_iff] at g2
      refine ⟨fun j hj => ?_, ⟨g2.1, fun q' s' hq hs' => ?_⟩, g4, g5⟩
      · rcases g1 j hj with g | ⟨q', s', g6, g7, g8⟩
        · rw [Nat.testBit_or, Nat.testBit_two_pow, Bool.or_eq_true] at g
          rcases g with g | g
          · exact .inl g
          · exact .inr ⟨0, x, by omega, rfl, by simpa using g⟩
        · exact .inr ⟨q' + 1, s', by omega, by simpa using g7, g8⟩
      · cases q' with
        | zero =>
          simp only [List.getElem?_cons_zero, Option.some.injEq] at hs'
          subst hs'
          intro e
          have := g2.2
          rw [e] at this
          simp at this
        | succ q' => exact g3 q' s' (by omega) (by simpa using hs')

/-- The heavy ones among some steps. -/
def heavies (p : List Step) : List Nat := (p.filter (·.heavy)).map (·.i)

theorem late_spec {ah : List Nat} : ∀ {p : List Step} {hs : List Nat}, planLate ah hs p = true → ∀ {q : Nat} {s : Step}, p[q]? = some s →
    s.from_ ≤ (hs ++ heavies (p.take q)).length ∧ (∀ h ∈ (hs ++ heavies (p.take q)).take s.from_, (ah.getD s.i 0).testBit h = true) ∧
    (∀ q' s', q < q' → p[q']? = some s' → s'.heavy = true → (ah.getD s'.i 0).testBit s.i = true)
  | [], _, _, q, s, h => by simp at h
  | x :: xs, hs, hp, q, s, h => by
    simp only [planLate, Bool.and_eq_true, List.all_eq_true] at hp
    obtain ⟨⟨⟨h0, h1⟩, h2⟩, h3⟩ := hp
    cases q with
    | zero =>
      simp only [List.getElem?_cons_zero, Option.some.injEq] at h
      subst h
      refine ⟨by simpa [heavies] using h0, fun y hy => ?_, fun q' s' hq hs' hh => ?_⟩
      · simp only [List.take_zero, heavies, List.filter_nil, List.map_nil, List.append_nil] at hy
        exact h1 y hy
      · cases q' with
        | zero => omega
        | succ q' =>
          have hm : s' ∈ xs := List.mem_of_getElem? (by simpa using hs')
          exact h2 s' (List.mem_filter.2 ⟨hm, hh⟩)
    | succ q =>
      obtain ⟨g0, g1, g2⟩ := late_spec h3 (q := q) (s := s) (by simpa using h)
      have : hs ++ heavies ((x :: xs).take (q + 1)) = (if x.heavy then hs ++ [x.i] else hs) ++ heavies (xs.take q) := by
        simp only [List.take_succ_cons, heavies, List.filter_cons]
        cases x.heavy <;> simp
      refine ⟨by rw [this]; exact g0, fun y hy => g1 y ?_, fun q' s' hq hs' hh => ?_⟩
      · rw [← this]; exact hy
      · cases q' with
        | zero => omega
        | succ q' => exact g2 q' s' (by omega) (by simpa using hs') hh

theorem dsts_spec : ∀ {l : List Oper} {seen : Nat}, dstsApart l seen = true → (∀ {i : Nat} {o : Oper} {d : Tmp}, l[i]? = some o → o.dst = some d → seen.testBit d = false) ∧
    ∀ {i j : Nat} {o o' : Oper} {d : Tmp}, l[i]? = some o → l[j]? = some o' → o.dst = some d → o'.dst = some d → i = j
  | [], _, _ => ⟨fun h => by simp at h, fun h => by simp at h⟩
  | x :: xs, seen, hp => by
    have hx : ∃ seen', dstsApart xs seen' = true ∧ (∀ d, seen'.testBit d = false → seen.testBit d = false ∧ x.dst ≠ some d) ∧ (∀ d, x.dst = some d → seen.testBit d = false) := by
      simp only [dstsApart] at hp
      split at hp
      · next hd => exact ⟨seen, hp, fun d h => ⟨h, by rw [hd]; simp⟩, fun d h => by rw [hd] at h; cases h⟩
      · next d hd =>
        simp only [Bool.and_eq_true] at hp
        refine ⟨_, hp.2, fun d' h => ?_, fun d' h => ?_⟩
        · rw [Nat.testBit_or, Nat.testBit_two_pow, Bool.or_eq_false_iff] at h
          exact ⟨h.1, by rw [hd]; intro e; cases e; simp at h⟩
        · rw [hd] at h; cases h; simpa using hp.1
    obtain ⟨seen', h1, h2, h3⟩ := hx
    obtain ⟨g1, g2⟩ := dsts_spec h1
    refine ⟨fun {i o d} hi hd => ?_, fun {i j o o' d} hi hj hd hd' => ?_⟩
    · cases i with
      | zero => simp only [List.getElem?_cons_zero, Option.some.injEq] at hi; subst hi; exact h3 d hd
      | succ i => exact (h2 d (g1 (by simpa using hi) hd)).1
    · cases i with
      | zero =>
        simp only [List.getElem?_cons_zero, Option.some.injEq] at hi
        subst hi
        cases j with
        | zero => rfl
        | succ j => exact absurd hd (h2 d (g1 (by simpa using hj) hd')).2
      | succ i =>
        cases j with
        | zero =>
          simp only [List.getElem?_cons_zero, Option.some.injEq] at hj
          subst hj
          exact absurd hd' (h2 d (g1 (by simpa using hi) hd)).2
        | succ j => rw [g2 (i := i) (j := j) (by simpa using hi) (by simpa using hj) hd hd']

/-- What a plan that is right tells. -/
structure PlanFacts (l : List Oper) (p : List Step) : Prop where
  len : p.length = l.length
  back : edgesBack l 0 = true
  all : ∀ k, k < l.length → ∃ (q : Nat) (s : Step), p[q]? = some s ∧ s.i = k
  lt : ∀ (q : Nat) (s : Step), p[q]? = some s → s.i < l.length
  order : planOrder l (aheads l []) 0 p = true
  late : planLate (aheads l []) [] p = true
  dsts : dstsApart l 0 = true
  tmps : ∀ (k : Nat) (o : Oper) (t : Tmp) (j : Nat) (o' : Oper), l[k]? = some o → t ∈ opTmps o → l[j]? = some o' → o'.dst = some t → j = k ∨ ((aheads l []).getD k 0).testBit j = true ∨ ((aheads l []).getD j 0).testBit k = true
  noDefer : ∀ (k : Nat) (o : Oper) (c : Call), l[k]? = some o → o.op ≠ .defer c

theorem planFacts {l : List Oper} {p : List Step} (h : planOk l p = true) : PlanFacts l p := by
  unfold planOk at h
  simp only [Bool.and_eq_true, List.all_eq_true] at h
  obtain ⟨⟨⟨⟨⟨⟨⟨⟨h1, h2⟩, h3⟩, h4⟩, h5⟩, h6⟩, h7⟩, h8⟩, h9⟩ := h
  refine ⟨by simpa using h1, h2, fun k hk => ?_, fun q s hs => by simpa using h3 s (List.mem_of_getElem? hs), h5, h6, h7, fun k o t j o' hk ht hj hd => ?_, fun k o c hk hc => ?_⟩
  · have := h4 k (List.mem_range.2 hk)
    rw [List.any_eq_true] at this
    obtain ⟨s, hs, hsk⟩ := this
    obtain ⟨q, hq⟩ := List.getElem?_of_mem hs
    exact ⟨q, s, hq, by simpa using hsk⟩
  · have m1 : (o, k) ∈ l.zipIdx := List.mem_zipIdx_iff_getElem?.2 hk
    have m2 : (o', j) ∈ l.zipIdx := List.mem_zipIdx_iff_getElem?.2 hj
    have := h8 (o, k) m1 t ht (o', j) m2
    simp only [Bool.or_eq_true, beq_iff_eq, Bool.not_eq_true', hd] at this
    rcases this with ((h | h) | h) | h
    · exact .inl h
    · simp at h
    · exact .inr (.inl h)
    · exact .inr (.inr h)
  · have := h9 o (List.mem_of_getElem? hk)
    rw [hc] at this
    cases this

end Go.Ab

namespace Go.Ab
section lift
variable {P : Program}

noncomputable def addAll (f : Nat → Option Blk) : List Nat → H → H
  | [], X => X
  | b :: bs, X => addAll f bs (match f b with | some B => X.put b B | none => X)

theorem addAll_next (f : Nat → Option Blk) : ∀ (bs : List Nat) (X : H), (addAll f bs X).next = X.next ∧ (addAll f bs X).ro = X.ro
  | [], X => ⟨rfl, rfl⟩
  | b :: bs, X => by
    simp only [addAll]
    obtain ⟨h1, h2⟩ := addAll_next f bs (match f b with | some B => X.put b B | none => X)
    rw [h1, h2]
    cases f b <;> exact ⟨rfl, rfl⟩

theorem addAll_get (f : Nat → Option Blk) : ∀ (bs : List Nat) (X : H) (x : Nat), (addAll f bs X).get x = if x ∈ bs then (match f x with | some B => some B | none => X.get x) else X.get x
  | [], X, x => by simp [addAll]
  | b :: bs, X, x => by
    simp only [addAll]
    rw [addAll_get f bs]
    have hg : (match f b with | some B => X.put b B | none => X : H).get x = if x = b then (match f x with | some B => some B | none => X.get x) else X.get x := by
      cases hf : f b with
      | none =>
        simp only
        split
        · next e => subst e; rw [hf]
        · rfl
      | some B =>
        simp only [H.get_put]
        split
        · next e => subst e; rw [hf]
        · rfl
    rw [hg]
    by_cases h1 : x ∈ bs <;> by_cases h2 : x = b
    · rw [if_pos h1, if_pos h2, if_pos (by simp [h1])]; cases f x <;> rfl
    · rw [if_pos h1, if_neg h2, if_pos (by simp [h1])]
    · rw [if_neg h1, if_pos h2, if_pos (by simp [h2])]
    · rw [if_neg h1, if_neg h2, if_neg (by simp [h1, h2])]

/-- What is known of less. -/
theorem Rel.weaken {ρ : Rho} {A A1 : H} {w : World} (h : Rel P ρ A w) (hsub : ∀ b B, A1.get b = some B → A.get b = some B) (hn : A1.next = A.next) (hro : A1.ro = A.ro) : Rel P ρ A1 w := by
  refine ⟨fun b B hb => ?_, fun b b' B B' L L' h0 h1 h2 => h.inj b b' B B' L L' (hro ▸ h0) (hsub _ _ h1) (hsub _ _ h2), h.low, fun b hb => h.new b (hn ▸ hb), by rw [hn, hro]; exact h.ro, h.glob⟩
  obtain ⟨L, h1, h2⟩ := h.blk b B (hsub _ _ hb)
  exact ⟨L, h1, h2.mono (Sub.refl _) (by rw [hro]; exact id) rfl⟩

theorem Mv.weaken {ρ ρ' : Rho} {A A' A1 : H} {w w' : World} (h : Mv P ρ A w ρ' A' w') (hsub : ∀ b B, A1.get b = some B → A'.get b = some B) (hn : A1.next = A'.next) (hro : A1.ro = A'.ro) : Mv P ρ A w ρ' A1 w' :=
  ⟨h.rel.weaken hsub hn hro, h.ext, hn ▸ h.next, hro.trans h.ro, fun b B hb hg => h.rok b B hb (hsub _ _ hg),
    fun b hb hd => (by
      cases hg : A1.get b with
      | none => rfl
      | some B => have := hsub _ _ hg; rw [h.dead b hb hd] at this; cases this),
    fun b B L hb => h.own b B L (hsub _ _ hb), h.size, h.block, h.tape, h.os, h.output⟩

/-- What is done of less is done of more: the rest stands. -/
theorem Mv.lift {ρ ρ' : Rho} {AL A1 A2 : H} {w w' : World} (hL : Rel P ρ AL w) (hsub : ∀ b B, A1.get b = some B → AL.get b = some B) (hn : A1.next = AL.next) (hro : A1.ro = AL.ro)
    (hm : Mv P ρ A1 w ρ' A2 w') : ∃ AL', Mv P ρ AL w ρ' AL' w' ∧ AL'.next = A2.next ∧
      ∀ b B, AL'.get b = some B ↔ A2.get b = some B ∨ (A2.get b = none ∧ A1.get b = none ∧ AL.get b = some B) := by
  let f : Nat → Option Blk := fun b => if (A1.get b).isNone && (A2.get b).isNone then AL.get b else none
  have hget : ∀ b B, (addAll f (List.range AL.next) A2).get b = some B ↔ A2.get b = some B ∨ (A2.get b = none ∧ A1.get b = none ∧ AL.get b = some B) := by
    intro b B
    rw [addAll_get]
    by_cases hb : b ∈ List.range AL.next
    · rw [if_pos hb]
      cases h2 : A2.get b with
      | some B2 =>
        have : f b = none := by simp [f, h2]
        rw [this]; simp
      | none =>
        cases h1 : A1.get b with
        | some B1 => have : f b = none := by simp [f, h1]
                     rw [this]; simp
        | none =>
          have : f b = AL.get b := by simp [f, h1, h2]
          rw [this]
          cases AL.get b <;> simp
    · rw [if_neg hb]
      constructor
      · exact .inl
      · rintro (h | ⟨h1, h2, h3⟩)
        · exact h
        · exact absurd (List.mem_range.2 (hL.lt h3)) hb
  have hs : Sub ρ ρ' := by
    intro b L hb
    rcases Nat.lt_or_ge b AL.next with h | h
    · rw [hm.ext b (hn ▸ h)]; exact hb
    · rw [hL.new b h] at hb; cases hb
  obtain ⟨hnx, hrx⟩ := addAll_next f (List.range AL.next) A2
  -- an extra block: where it lies, nobody else of these lies
  have apart : ∀ b B L, A1.get b = none → AL.get b = some B → ρ b = some L → (∀ b1 B1 L1, A1.ro ≤ b1 → A1.get b1 = some B1 → ρ b1 = some L1 → L1.blk ≠ L.blk) := by
    intro b B L h1 h2 h3 b1 B1 L1 h0 h4 h5 e
    have := hL.inj b1 b B1 B L1 L (hro ▸ h0) (hsub _ _ h4) h2 h5 h3 e
    subst this
    rw [h1] at h4; cases h4
  refine ⟨addAll f (List.range AL.next) A2, ⟨⟨fun b B hb => ?_, fun b b' B B' L L' h0 h1 h2 h3 h4 h5 => ?_, hm.rel.low, fun b hb => hm.rel.new b (hnx ▸ hb), by rw [hnx, hrx]; exact hm.rel.ro, hm.rel.glob⟩,
    fun b hb => hm.ext b (hn ▸ hb), by rw [hnx, ← hn]; exact hm.next, by rw [hrx, ← hro]; exact hm.ro, fun b B hb hg => ?_, fun b hb hd => ?_, fun b B L hb hr hLb => ?_, hm.size, fun c hc hno => ?_, hm.tape, hm.os, hm.output⟩, hnx, hget⟩
  · rcases (hget b B).1 hb with h | ⟨h1, h2, h3⟩
    · obtain ⟨L, h4, h5⟩ := hm.rel.blk b B h
      exact ⟨L, h4, h5.mono (Sub.refl _) (by rw [hrx]; exact id) rfl⟩
    · obtain ⟨L, h4, h5⟩ := hL.blk b B h3
      refine ⟨L, hs _ _ h4, h5.mono hs (by rw [hrx, hm.ro, hro]; exact id) ?_⟩
      exact hm.block L.blk (hL.low _ _ h4) fun b1 B1 L1 h6 h8 h7 e => apart b B L h2 h3 h4 b1 B1 L1 h8 h6 h7 e
  · -- apart
    have extra : ∀ b B L b1 B1 L1, A1.get b = none → AL.get b = some B → ρ' b = some L → A1.ro ≤ b1 → A2.get b1 = some B1 → ρ' b1 = some L1 → L1.blk = L.blk → False := by
      intro b B L b1 B1 L1 h1 h2 h3 hr h4 h5 e
      obtain ⟨L0, h6, _⟩ := hL.blk b B h2
      have := hs _ _ h6
      rw [h3] at this
      cases this
      rcases hm.own b1 B1 L1 h4 hr h5 with h7 | ⟨b0, B0, L0', h7, h8, h9, h10⟩
      · have := hL.low _ _ h6; omega
      · exact apart b B L h1 h2 h6 b0 B0 L0' h8 h7 h9 (h10.trans e)
    have h0' : A1.ro ≤ b := by rw [hrx, hm.ro] at h0; exact h0
    rcases (hget b B).1 h1 with g | ⟨g1, g2, g3⟩ <;> rcases (hget b' B').1 h2 with g' | ⟨g1', g2', g3'⟩
    · exact hm.rel.inj b b' B B' L L' (by rw [hm.ro]; exact h0') g g' h3 h4 h5
    · exact (extra b' B' L' b B L g2' g3' h4 h0' g h3 h5).elim
    · by_cases hr : A1.ro ≤ b'
      · exact (extra b B L b' B' L' g2 g3 h3 hr g' h4 h5.symm).elim
      · have h7 := hm.rok b' B' (by omega) g'
        obtain ⟨L0, h6, _⟩ := hL.blk b B g3
        obtain ⟨L2, h8, _⟩ := hL.blk b' B' (hsub _ _ h7)
        have e1 := hs _ _ h6
        have e2 := hs _ _ h8
        rw [h3] at e1; rw [h4] at e2
        cases e1; cases e2
        have := hL.inj b b' B B' L L' (hro ▸ h0') g3 (hsub _ _ h7) h6 h8 h5
        subst this
        have h9 := g2.symm.trans h7
        cases h9
    · obtain ⟨L0, h6, _⟩ := hL.blk b B g3
      obtain ⟨L0', h7, _⟩ := hL.blk b' B' g3'
      have e1 := hs _ _ h6
      have e2 := hs _ _ h7
      rw [h3] at e1; rw [h4] at e2
      cases e1; cases e2
      exact hL.inj b b' B B' L L' (hro ▸ h0') g3 g3' h6 h7 h5
  · rcases (hget b B).1 hg with h | ⟨_, _, h3⟩
    · exact hsub _ _ (hm.rok b B (by rw [hro]; exact hb) h)
    · exact h3
  · cases hg : (addAll f (List.range AL.next) A2).get b with
    | none => rfl
    | some B =>
      rcases (hget b B).1 hg with h | ⟨_, _, h3⟩
      · have h1 : A1.get b = none := by
          cases h1 : A1.get b with
          | none => rfl
          | some B1 => rw [hsub _ _ h1] at hd; cases hd
        rw [hm.dead b (hn ▸ hb) h1] at h; cases h
      · rw [hd] at h3; cases h3
  · rcases (hget b B).1 hb with h | ⟨h1, h2, h3⟩
    · rcases hm.own b B L h (hro ▸ hr) hLb with h4 | ⟨b0, B0, L0, h4, h5, h6, h7⟩
      · exact .inl h4
      · exact .inr ⟨b0, B0, L0, hsub _ _ h4, hro ▸ h5, h6, h7⟩
    · obtain ⟨L0, h4, _⟩ := hL.blk b B h3
      have := hs _ _ h4
      rw [hLb] at this
      cases this
      exact .inr ⟨b, B, L, h3, hr, h4, rfl⟩
  · exact hm.block c hc fun b B L hb hr hLb => hno b B L (hsub _ _ hb) (hro ▸ hr) hLb

/-- A new row under a number that was kept for it. -/
theorem Mv.pushAt {ρ0 ρ : Rho} {A AL : H} {w0 w : World} (hm : Mv P ρ0 A w0 ρ AL w) {id : Nat} (h1 : A.next ≤ id) (h2 : id < AL.next) (h3 : ρ id = none) (hA : A.ro ≤ A.next) {cs : List Value} {arr : Array Value} (hv : VRs ρ cs arr.toList) (el : TypeId) (esz : Nat) :
    Mv P ρ0 A w0 (ρ.put id ⟨w.heap.size, 0, esz, arr.size⟩) (AL.put id (.row cs esz)) { w with heap := w.heap.push (.cells arr el) } := by
  have hR := hm.rel
  have hnone : AL.get id = none := by
    cases hg : AL.get id with
    | none => rfl
    | some B => obtain ⟨L, h4, _⟩ := hR.blk id B hg; rw [h3] at h4; cases h4
  have hs : Sub ρ (ρ.put id ⟨w.heap.size, 0, esz, arr.size⟩) := by
    intro b L hb
    unfold Rho.put
    split
    · next e => subst e; rw [h3] at hb; cases hb
    · exact hb
  have hheap : ∀ k, k < w.heap.size → (w.heap.push (.cells arr el))[k]? = w.heap[k]? := fun k hk => by rw [Array.getElem?_push, if_neg (by omega)]
  have g : ∀ x X LX, (AL.put id (.row cs esz)).get x = some X → (ρ.put id ⟨w.heap.size, 0, esz, arr.size⟩) x = some LX →
      (x = id ∧ LX = ⟨w.heap.size, 0, esz, arr.size⟩) ∨ (x ≠ id ∧ AL.get x = some X ∧ ρ x = some LX) := by
    intro x X LX hx hLX
    rw [H.get_put] at hx
    unfold Rho.put at hLX
    split at hx
    · next e => rw [if_pos e] at hLX; cases hLX; exact .inl ⟨e, rfl⟩
    · next e => rw [if_neg e] at hLX; exact .inr ⟨e, hx, hLX⟩
  refine ⟨⟨fun b B hb => ?_, fun b b' B B' L L' e0 e1 e2 e3 e4 e5 => ?_, fun b L hb => ?_, fun b hb => ?_, hR.ro, fun k hk => ?_⟩,
    fun b hb => ?_, hm.next, hm.ro, fun b B hb hg => ?_, fun b hb hd => ?_, fun b B L hb hr hL => ?_, by simp; exact Nat.le_succ_of_le hm.size, fun c hc hno => ?_, hm.tape, hm.os, hm.output⟩
  · rw [H.get_put] at hb
    split at hb
    · next e =>
      subst e; cases hb
      refine ⟨_, Rho.put_self _ _ _, rfl, arr, el, (0, 0), by simp, rfl, .inr rfl, fun i v hi => ?_⟩
      obtain ⟨v', g1, g2⟩ := hv.get hi
      exact ⟨v', by simpa using g1, g2.mono hs⟩
    · obtain ⟨L, g1, g2⟩ := hR.blk b B hb
      exact ⟨L, hs _ _ g1, g2.mono hs (fun h => h) (hheap _ (hR.low _ _ g1))⟩
  · rcases g b B L e1 e3 with ⟨f1, f2⟩ | ⟨f1, f2, f3⟩ <;> rcases g b' B' L' e2 e4 with ⟨k1, k2⟩ | ⟨k1, k2, k3⟩
    · omega
    · subst f2; have := hR.low _ _ k3; simp only at e5; omega
    · subst k2; have := hR.low _ _ f3; simp only at e5; omega
    · exact hR.inj b b' B B' L L' e0 f2 k2 f3 k3 e5
  · unfold Rho.put at hb
    simp only [Array.size_push]
    split at hb
    · cases hb; simp
    · have := hR.low _ _ hb; omega
  · unfold Rho.put
    have : AL.next ≤ b := hb
    rw [if_neg (by omega)]
    exact hR.new _ this
  · obtain ⟨L, g1, g2⟩ := hR.glob k hk
    exact ⟨L, hs _ _ g1, g2⟩
  · unfold Rho.put; rw [if_neg (by omega)]; exact hm.ext b hb
  · rw [H.get_put, if_neg (by omega)] at hg; exact hm.rok b B hb hg
  · rw [H.get_put, if_neg (by omega)]; exact hm.dead b hb hd
  · rcases g b B L hb hL with ⟨f1, f2⟩ | ⟨f1, f2, f3⟩
    · subst f2; exact .inl hm.size
    · exact hm.own b B L f2 hr f3
  · show (w.heap.push (.cells arr el))[c]? = _
    rw [hheap c (Nat.lt_of_lt_of_le hc hm.size)]
    exact hm.block c hc hno

end lift

/-! The way through a plan. -/

section canon
variable (P : Program) (eqv : Value → Value → Bool) (callF : CallF) (ops : Array Oper) (base : Nat)

/-- A step that waits for what panicked: it isn't done. -/
def blocked (s : Step) (st : St) : Bool :=
  match st.pan with
  | some (_, _, h) => s.heavy || ((aheads ops.toList []).getD s.i 0).testBit h
  | none => false

/-- What a step did; and what it put. -/
inductive DS (s : Step) (o : Oper) (st : St) : St → Option Value → Option (List Value × Nat) → Prop
  | skip : blocked ops s st = true → DS s o st st none none
  | unw (a' : Act) : blocked ops s st = false → wantedA ops st.a o = some false → st.a.put o.dst undef = some a' →
      DS s o st { st with a := a', hs := if s.heavy then st.hs ++ [st.A] else st.hs } (some undef) none
  | hv (v : Value) (A' : H) (a' : Act) : blocked ops s st = false → wantedA ops st.a o = some true → s.heavy = true → aOp P callF (evFor P o st.a) o st.A = some (.val v, A') → st.a.put o.dst v = some a' →
      DS s o st { st with a := a', A := A', hs := st.hs ++ [A'] } (some v) none
  | hp (ch : List PanicEntry) (A' : H) : blocked ops s st = false → wantedA ops st.a o = some true → s.heavy = true → aOp P callF (evFor P o st.a) o st.A = some (.pan ch, A') →
      DS s o st { st with pan := some (ch, A', s.i) } none none
  | ld (t : TypeId) (x : Operand) (p v : Value) (a' : Act) : blocked ops s st = false → wantedA ops st.a o = some true → s.heavy = false → o.op = .load t x → evFor P o st.a x = some p → aLoad P st.A t p = some v →
      (∀ B ∈ st.hs.drop s.from_, ∃ u, aLoad P B t p = some u ∧ eqv v u = true) → st.a.put o.dst v = some a' → DS s o st { st with a := a' } (some v) none
  | mk (cs : List Value) (esz : Nat) (l : Option Nat) (a' : Act) : blocked ops s st = false → wantedA ops st.a o = some true → s.heavy = false → aMake P (evFor P o st.a) o = some (.row cs esz l) →
      st.a.put o.dst (LR.mk (base + s.i) (.row cs esz l)) = some a' → DS s o st { st with a := a', A := st.A.put (base + s.i) (.row cs esz) } (some (LR.mk (base + s.i) (.row cs esz l))) (some (cs, esz))
  | li (v : Value) (a' : Act) : blocked ops s st = false → wantedA ops st.a o = some true → s.heavy = false → aLight P (evFor P o st.a) o = some (.val v) → st.a.put o.dst v = some a' →
      DS s o st { st with a := a' } (some v) none

theorem set_some {st st' : St} {o : Oper} {v : Value} {A : H} {hs : List H} (h : st.set o v A hs = some st') : ∃ a', st.a.put o.dst v = some a' ∧ st' = { st with a := a', A, hs } := by
  unfold St.set at h
  split at h
  · next a' ha => cases h; exact ⟨a', ha, rfl⟩
  · cases h

theorem dStep_inv {s : Step} {st st' : St} (h : dStep P eqv callF ops (aheads ops.toList []) base s st = some st') : ∃ o r m, ops.toList[s.i]? = some o ∧ DS P eqv callF ops base s o st st' r m := by
  unfold dStep at h
  split at h
  · cases h
  · next o ho =>
    change (if blocked ops s st = true then some st else _) = _ at h
    split at h
    · next hb => cases h; exact ⟨o, none, none, ho, .skip hb⟩
    · next hb =>
      have hb : blocked ops s st = false := by simpa using hb
      split at h
      · cases h
      · next hw =>
        obtain ⟨a', h1, rfl⟩ := set_some h
        exact ⟨o, _, _, ho, .unw a' hb hw h1⟩
      · next hw =>
        split at h
        · next hh =>
          split at h
          · next v A' hop =>
            obtain ⟨a', h1, rfl⟩ := set_some h
            exact ⟨o, _, _, ho, .hv v A' a' hb hw hh hop h1⟩
          · next ch A' hop => cases h; exact ⟨o, _, _, ho, .hp ch A' hb hw hh hop⟩
          · cases h
        · next hh =>
          have hh : s.heavy = false := by simpa using hh
          split at h
          · next t x hop =>
            split at h
            · next p hx =>
              split at h
              · next v hl =>
                split at h
                · next hall =>
                  obtain ⟨a', h1, rfl⟩ := set_some h
                  refine ⟨o, _, _, ho, .ld t x p v a' hb hw hh hop hx hl (fun B hB => ?_) h1⟩
                  have := (List.all_eq_true.1 hall) B hB
                  cases hB' : aLoad P B t p with
                  | none => rw [hB'] at this; cases this
                  | some u => rw [hB'] at this; exact ⟨u, rfl, this⟩
                · cases h
              · cases h
            · cases h
          · split at h
            · next cs esz l hm => obtain ⟨a', h1, rfl⟩ := set_some h; exact ⟨o, _, _, ho, .mk cs esz l a' hb hw hh hm h1⟩
            · cases h
          · split at h
            · next cs esz l hm => obtain ⟨a', h1, rfl⟩ := set_some h; exact ⟨o, _, _, ho, .mk cs esz l a' hb hw hh hm h1⟩
            · cases h
          · split at h
            · next cs esz l hm => obtain ⟨a', h1, rfl⟩ := set_some h; exact ⟨o, _, _, ho, .mk cs esz l a' hb hw hh hm h1⟩
            · cases h
          · split at h
            · next v hl => obtain ⟨a', h1, rfl⟩ := set_some h; exact ⟨o, _, _, ho, .li v a' hb hw hh hl h1⟩
            · cases h

/-- The states on the way through a plan, and what each step put. -/
structure Can (p : List Step) (st0 : St) (S : Nat → St) (R : Nat → Option Value) (M : Nat → Option (List Value × Nat)) (O : Nat → Oper) : Prop where
  zero : S 0 = st0
  step : ∀ (q : Nat) (s : Step), p[q]? = some s → ops.toList[s.i]? = some (O q) ∧ DS P eqv callF ops base s (O q) (S q) (S (q + 1)) (R q) (M q)

theorem can_of_run : ∀ {p : List Step} {st0 fin : St}, dRun P eqv callF ops (aheads ops.toList []) base p st0 = some fin → ∃ S R M O, Can P eqv callF ops base p st0 S R M O ∧ S p.length = fin
  | [], st0, fin, h => by
    simp only [dRun] at h
    cases h
    exact ⟨fun _ => st0, fun _ => none, fun _ => none, fun _ => default, ⟨rfl, fun q s hs => by simp at hs⟩, rfl⟩
  | s :: p, st0, fin, h => by
    simp only [dRun] at h
    split at h
    · next st1 h1 =>
      obtain ⟨S, R, M, O, h2, h3⟩ := can_of_run h
      obtain ⟨o, r, m, h4, h5⟩ := dStep_inv P eqv callF ops base h1
      refine ⟨fun q => match q with | 0 => st0 | q + 1 => S q, fun q => match q with | 0 => r | q + 1 => R q, fun q => match q with | 0 => m | q + 1 => M q, fun q => match q with | 0 => o | q + 1 => O q, ⟨rfl, fun q s' hs => ?_⟩, h3⟩
      cases q with
      | zero =>
        simp only [List.getElem?_cons_zero, Option.some.injEq] at hs
        subst hs
        refine ⟨h4, ?_⟩
        show DS P eqv callF ops base s o st0 (S 0) r m
        rw [h2.zero]; exact h5
      | succ q => exact h2.step q s' (by simpa using hs)
    · cases h

end canon
end Go.Ab

namespace Go.Ab

/-! What the way through a plan tells of its states. -/

def hcp (p : List Step) (q : Nat) : Nat := (heavies (p.take q)).length

theorem hcp_succ {p : List Step} {q : Nat} {s : Step} (h : p[q]? = some s) : hcp p (q + 1) = hcp p q + (if s.heavy then 1 else 0) := by
  have hlt := (List.getElem?_eq_some_iff.1 h).1
  unfold hcp heavies
  rw [List.take_succ, h]
  simp only [Option.toList_some, List.filter_append, List.map_append, List.length_append]
  cases hs : s.heavy <;> simp [hs]

theorem hcp_le_succ (p : List Step) (q : Nat) : hcp p q ≤ hcp p (q + 1) := by
  cases h : p[q]? with
  | some s => rw [hcp_succ h]; omega
  | none =>
    unfold hcp
    rw [List.take_succ, h]
    simp

theorem hcp_mono (p : List Step) {q q' : Nat} (h : q ≤ q') : hcp p q ≤ hcp p q' := by
  induction h with
  | refl => exact Nat.le_refl _
  | step _ ih => exact Nat.le_trans ih (hcp_le_succ _ _)

theorem hcp_lt {p : List Step} {q q' : Nat} {s : Step} (h : p[q]? = some s) (hh : s.heavy = true) (hq : q < q') : hcp p q < hcp p q' := by
  have h1 := hcp_succ h
  rw [if_pos hh] at h1
  have h2 := hcp_mono p (Nat.succ_le_of_lt hq)
  simp only [Nat.succ_eq_add_one] at h2
  omega

/-- The k-th heavy one. -/
theorem hcp_nth {p : List Step} : ∀ {q k : Nat}, k < hcp p q → ∃ q' s, q' < q ∧ p[q']? = some s ∧ s.heavy = true ∧ hcp p q' = k ∧ (heavies (p.take q))[k]? = some s.i
  | 0, k, h => by simp [hcp, heavies] at h
  | q + 1, k, h => by
    cases hq : p[q]? with
    | none =>
      have he : p.take (q + 1) = p.take q := by rw [List.take_succ, hq]; simp
      have h' : k < hcp p q := by unfold hcp at h ⊢; rw [he] at h; exact h
      obtain ⟨q', s, h1, h2, h3, h4, h5⟩ := hcp_nth h'
      exact ⟨q', s, by omega, h2, h3, h4, by rw [he]; exact h5⟩
    | some s =>
      have he : heavies (p.take (q + 1)) = heavies (p.take q) ++ (if s.heavy then [s.i] else []) := by
        unfold heavies
        rw [List.take_succ, hq]
        simp only [Option.toList_some, List.filter_append, List.map_append]
        cases hs : s.heavy <;> simp [hs]
      rcases Nat.lt_or_ge k (hcp p q) with h' | h'
      · obtain ⟨q', s', h1, h2, h3, h4, h5⟩ := hcp_nth h'
        refine ⟨q', s', by omega, h2, h3, h4, ?_⟩
        rw [he, List.getElem?_append_left h']
        exact h5
      · rw [hcp_succ hq] at h
        cases hs : s.heavy with
        | false => rw [hs] at h; simp at h; omega
        | true =>
          rw [hs] at h
          simp only [if_true] at h
          have hk : k = hcp p q := by omega
          refine ⟨q, s, by omega, hq, hs, hk.symm, ?_⟩
          rw [he, hs, if_pos rfl, List.getElem?_append_right h', hk]
          simp [hcp]

section canon
variable {P : Program} {eqv : Value → Value → Bool} {callF : CallF} {ops : Array Oper} {base : Nat} {p : List Step} {st0 : St} {S : Nat → St} {R : Nat → Option Value} {M : Nat → Option (List Value × Nat)} {O : Nat → Oper}

/-- The state at a place of the plan. -/
structure CF (p : List Step) (base : Nat) (st0 : St) (S : Nat → St) (R : Nat → Option Value) (M : Nat → Option (List Value × Nat)) (O : Nat → Oper) (q : Nat) : Prop where
  n : (S q).a.n = st0.a.n
  defers : (S q).a.defers = st0.a.defers
  tm : ∀ t v, (S q).a.tm.get t = some v → (∃ q' s, q' < q ∧ p[q']? = some s ∧ (O q').dst = some t ∧ R q' = some v) ∨
    (st0.a.tm.get t = some v ∧ ∀ q' s, q' < q → p[q']? = some s → (O q').dst = some t → R q' = none)
  pos : 0 < (S q).hs.length
  free : (S q).pan = none → (S q).hs.length = hcp p q + 1
  pan : ∀ ch B i, (S q).pan = some (ch, B, i) → ∃ q' s, q' < q ∧ p[q']? = some s ∧ s.i = i ∧ s.heavy = true ∧ R q' = none ∧ (S q).hs.length = hcp p q' + 1
  le : (S q).hs.length ≤ hcp p q + 1
  top : ∃ X, (S q).hs[(S q).hs.length - 1]? = some X ∧ (S q).A.next = X.next ∧ (S q).A.ro = X.ro ∧
    (∀ b B, (S q).A.get b = some B → X.get b = some B ∨ ∃ q' s cs esz, q' < q ∧ p[q']? = some s ∧ M q' = some (cs, esz) ∧ (S q').hs.length = (S q).hs.length ∧ b = base + s.i ∧ B = .row cs esz) ∧
    (∀ q' s cs esz, q' < q → p[q']? = some s → M q' = some (cs, esz) → (S q').hs.length = (S q).hs.length → (S q).A.get (base + s.i) = some (.row cs esz)) ∧
    (∀ b B, X.get b = some B → (∀ q' s m, q' < q → p[q']? = some s → M q' = some m → (S q').hs.length = (S q).hs.length → b ≠ base + s.i) → (S q).A.get b = some B)

theorem put_n {a a' : Act} {dst : Option Tmp} {v : Value} (h : a.put dst v = some a') : a'.n = a.n ∧ a'.defers = a.defers ∧ (∀ t x, a'.tm.get t = some x → (dst = some t ∧ x = v) ∨ (dst ≠ some t ∧ a.tm.get t = some x)) ∧ ∀ d, dst = some d → d < a.n := by
  cases dst with
  | none => cases h; exact ⟨rfl, rfl, fun t x ht => .inr ⟨by simp, ht⟩, fun d hd => (by cases hd)⟩
  | some d =>
    rw [put_some] at h
    split at h
    · next hd =>
      cases h
      refine ⟨rfl, rfl, fun t x ht => ?_, fun d' hd' => by cases hd'; exact hd⟩
      simp only [T.get_set] at ht
      split at ht
      · next e => cases ht; exact .inl ⟨by rw [e], rfl⟩
      · next e => exact .inr ⟨by simp; exact fun h => e h.symm, ht⟩
    · cases h

theorem CF.zero (hC : Can P eqv callF ops base p st0 S R M O) (h0 : st0.hs = [st0.A]) (h1 : st0.pan = none) : CF p base st0 S R M O 0 := by
  refine ⟨by rw [hC.zero], by rw [hC.zero], fun t v h => .inr ⟨by rw [hC.zero] at h; exact h, fun q' s hq => by omega⟩, by rw [hC.zero, h0]; simp, fun _ => by rw [hC.zero, h0]; simp [hcp, heavies],
    fun ch B i h => (by rw [hC.zero, h1] at h; cases h), by rw [hC.zero, h0]; simp, st0.A, by rw [hC.zero, h0]; simp, by rw [hC.zero], by rw [hC.zero], fun b B h => .inl (by rw [hC.zero] at h; exact h), fun q' s cs esz hq => by omega, fun b B h _ => by rw [hC.zero]; exact h⟩

/-- Steps that change no heap. -/
theorem CF.calm {q : Nat} {s : Step} (hs : p[q]? = some s) (h : CF p base st0 S R M O q) {a' : Act} (hS : S (q + 1) = { S q with a := a' }) (hM : M q = none) {v : Value} (hR : R q = some v) (hput : (S q).a.put (O q).dst v = some a') (hh : s.heavy = false) : CF p base st0 S R M O (q + 1) := by
  obtain ⟨g1, g2, g3, g4⟩ := put_n hput
  have hhs : (S (q + 1)).hs = (S q).hs := by rw [hS]
  have hA : (S (q + 1)).A = (S q).A := by rw [hS]
  have hp : (S (q + 1)).pan = (S q).pan := by rw [hS]
  have ha : (S (q + 1)).a = a' := by rw [hS]
  have hhc : hcp p (q + 1) = hcp p q := by rw [hcp_succ hs, hh]; rfl
  obtain ⟨X, t1, t2, t3, t4, t5, t6⟩ := h.top
  refine ⟨by rw [ha, g1, h.n], by rw [ha, g2, h.defers], fun t x hx => ?_, by rw [hhs]; exact h.pos, fun hpn => by rw [hhs, hhc]; exact h.free (hp ▸ hpn), fun ch B i hpn => ?_, by rw [hhs, hhc]; exact h.le,
    X, by rw [hhs]; exact t1, by rw [hA]; exact t2, by rw [hA]; exact t3, fun b B hb => ?_, fun q' s' cs esz hq hs' hm hl => ?_, fun b B hb hno => ?_⟩
  · rw [ha] at hx
    rcases g3 t x hx with ⟨e1, e2⟩ | ⟨e1, e2⟩
    · exact .inl ⟨q, s, by omega, hs, e1, by rw [hR, e2]⟩
    · rcases h.tm t x e2 with ⟨q', s', f1, f2, f3, f4⟩ | ⟨f1, f2⟩
      · exact .inl ⟨q', s', by omega, f2, f3, f4⟩
      · refine .inr ⟨f1, fun q' s' hq hs' hd => ?_⟩
        rcases Nat.lt_or_ge q' q with hlt | hge
        · exact f2 q' s' hlt hs' hd
        · have : q' = q := by omega
          subst this
          exact absurd hd e1
  · obtain ⟨q', s', f1, f2, f3, f4, f5, f6⟩ := h.pan ch B i (hp ▸ hpn)
    exact ⟨q', s', by omega, f2, f3, f4, f5, by rw [hhs]; exact f6⟩
  · rw [hA] at hb
    rcases t4 b B hb with h1 | ⟨q', s', cs, esz, f1, f2, f3, f4, f5, f6⟩
    · exact .inl h1
    · exact .inr ⟨q', s', cs, esz, by omega, f2, f3, by rw [hhs]; exact f4, f5, f6⟩
  · rcases Nat.lt_or_ge q' q with hlt | hge
    · rw [hA]; exact t5 q' s' cs esz hlt hs' hm (by rw [hl, hhs])
    · have : q' = q := by omega
      subst this
      rw [hM] at hm; cases hm
  · rw [hA]
    exact t6 b B hb fun q' s' m hq hs' hm hl => hno q' s' m (by omega) hs' hm (by rw [hhs]; exact hl)

/-- Steps behind which a new heap is told. -/
theorem CF.heave {q : Nat} {s : Step} (hs : p[q]? = some s) (h : CF p base st0 S R M O q) {a' : Act} {A' : H} (hS : S (q + 1) = { S q with a := a', A := A', hs := (S q).hs ++ [A'] }) {v : Value} (hR : R q = some v) (hput : (S q).a.put (O q).dst v = some a') (hh : s.heavy = true)
    (hpan : (S q).pan = none) (hle : ∀ q', q' ≤ q → (S q').hs.length ≤ (S q).hs.length) : CF p base st0 S R M O (q + 1) := by
  obtain ⟨g1, g2, g3, g4⟩ := put_n hput
  have hhs : (S (q + 1)).hs = (S q).hs ++ [A'] := by rw [hS]
  have hA : (S (q + 1)).A = A' := by rw [hS]
  have hp : (S (q + 1)).pan = none := by rw [hS]; exact hpan
  have ha : (S (q + 1)).a = a' := by rw [hS]
  have hhc : hcp p (q + 1) = hcp p q + 1 := by rw [hcp_succ hs, hh]; rfl
  have hlen : (S (q + 1)).hs.length = (S q).hs.length + 1 := by rw [hhs]; simp
  refine ⟨by rw [ha, g1, h.n], by rw [ha, g2, h.defers], fun t x hx => ?_, by rw [hlen]; omega, fun _ => by rw [hlen, h.free hpan, hhc], fun ch B i hpn => (by rw [hp] at hpn; cases hpn), by rw [hlen, hhc]; have := h.le; omega,
    A', by rw [hhs]; simp, by rw [hA], by rw [hA], fun b B hb => .inl (by rw [hA] at hb; exact hb), fun q' s' cs esz hq hs' hm hl => ?_, fun b B hb hno => by rw [hA]; exact hb⟩
  · rw [ha] at hx
    rcases g3 t x hx with ⟨e1, e2⟩ | ⟨e1, e2⟩
    · exact .inl ⟨q, s, by omega, hs, e1, by rw [hR, e2]⟩
    · rcases h.tm t x e2 with ⟨q', s', f1, f2, f3, f4⟩ | ⟨f1, f2⟩
      · exact .inl ⟨q', s', by omega, f2, f3, f4⟩
      · refine .inr ⟨f1, fun q' s' hq hs' hd => ?_⟩
        rcases Nat.lt_or_ge q' q with hlt | hge
        · exact f2 q' s' hlt hs' hd
        · have : q' = q := by omega
          subst this
          exact absurd hd e1
  · have := hle q' (by omega)
    omega

theorem DS.hs_le {s : Step} {o : Oper} {st st' : St} {r m} (h : DS P eqv callF ops base s o st st' r m) : ∃ l, st'.hs = st.hs ++ l := by
  cases h with
  | skip => exact ⟨[], (List.append_nil _).symm⟩
  | unw =>
    cases hh : s.heavy with
    | false => exact ⟨[], (List.append_nil _).symm⟩
    | true => exact ⟨[st.A], rfl⟩
  | hv v A' => exact ⟨[A'], rfl⟩
  | hp => exact ⟨[], (List.append_nil _).symm⟩
  | ld => exact ⟨[], (List.append_nil _).symm⟩
  | mk => exact ⟨[], (List.append_nil _).symm⟩
  | li => exact ⟨[], (List.append_nil _).symm⟩

theorem hs_pre (hC : Can P eqv callF ops base p st0 S R M O) {q q' : Nat} (h : q ≤ q') (hq : q' ≤ p.length) : ∃ l, (S q').hs = (S q).hs ++ l := by
  induction h with
  | refl => exact ⟨[], by simp⟩
  | @step m hm ih =>
    obtain ⟨l, hl⟩ := ih (by omega)
    have hlt : m < p.length := hq
    obtain ⟨_, hd⟩ := hC.step m p[m] (List.getElem?_eq_getElem hlt)
    obtain ⟨l', hl'⟩ := hd.hs_le
    exact ⟨l ++ l', by rw [hl', hl, List.append_assoc]⟩

theorem hs_len (hC : Can P eqv callF ops base p st0 S R M O) {q q' : Nat} (h : q ≤ q') (hq : q' ≤ p.length) : (S q).hs.length ≤ (S q').hs.length := by
  obtain ⟨l, hl⟩ := hs_pre hC h hq
  rw [hl]; simp

theorem cf_all (hC : Can P eqv callF ops base p st0 S R M O) (F : PlanFacts ops.toList p) (h0 : st0.hs = [st0.A]) (h1 : st0.pan = none) : ∀ q, q ≤ p.length → CF p base st0 S R M O q := by
  intro q
  induction q with
  | zero => intro _; exact CF.zero hC h0 h1
  | succ q ih =>
    intro hq
    have h := ih (by omega)
    have hlt : q < p.length := by omega
    have hs : p[q]? = some p[q] := List.getElem?_eq_getElem hlt
    obtain ⟨hop, hd⟩ := hC.step q _ hs
    have hle : ∀ q', q' ≤ q → (S q').hs.length ≤ (S q).hs.length := fun q' hq' => hs_len hC hq' (by omega)
    have hpan : p[q].heavy = true → blocked ops p[q] (S q) = false → (S q).pan = none := by
      intro hh hb
      unfold blocked at hb
      split at hb
      · rw [hh] at hb; simp at hb
      · next e => exact e
    have uniq : ∀ q' s', q' < q → p[q']? = some s' → s'.i ≠ p[q].i := (order_spec F.order hs).2.1.2
    generalize hS : S (q + 1) = st' at hd
    generalize hr : R q = r at hd
    generalize hm : M q = m at hd
    generalize hsq : p[q] = s at *
    have same : st' = S q → m = none → r = none → blocked ops s (S q) = true → CF p base st0 S R M O (q + 1) := by
      intro e em er hb
      rw [e] at hS
      obtain ⟨X, t1, t2, t3, t4, t5, t6⟩ := h.top
      refine ⟨by rw [hS]; exact h.n, by rw [hS]; exact h.defers, fun t x hx => ?_, by rw [hS]; exact h.pos, fun hpn => ?_, fun ch B i hpn => ?_, by rw [hS]; exact Nat.le_trans h.le (by have := hcp_le_succ p q; omega),
        X, by rw [hS]; exact t1, by rw [hS]; exact t2, by rw [hS]; exact t3, fun b B hb => ?_, fun q' s' cs esz hq hs' hm' hl => ?_, fun b B hb hno => ?_⟩
      · rw [hS] at hx
        rcases h.tm t x hx with ⟨q', s', f1, f2, f3, f4⟩ | ⟨f1, f2⟩
        · exact .inl ⟨q', s', by omega, f2, f3, f4⟩
        · refine .inr ⟨f1, fun q' s' hq hs' hd' => ?_⟩
          rcases Nat.lt_or_ge q' q with hlt | hge
          · exact f2 q' s' hlt hs' hd'
          · have : q' = q := by omega
            subst this
            rw [hr, er]
      · rw [hS] at hpn
        unfold blocked at hb; rw [hpn] at hb; cases hb
      · rw [hS] at hpn
        obtain ⟨q', s', f1, f2, f3, f4, f5, f6⟩ := h.pan ch B i hpn
        exact ⟨q', s', by omega, f2, f3, f4, f5, by rw [hS]; exact f6⟩
      · rw [hS] at hb
        rcases t4 b B hb with h1 | ⟨q', s', cs, esz, f1, f2, f3, f4, f5, f6⟩
        · exact .inl h1
        · exact .inr ⟨q', s', cs, esz, by omega, f2, f3, by rw [hS]; exact f4, f5, f6⟩
      · rcases Nat.lt_or_ge q' q with hlt | hge
        · rw [hS]; exact t5 q' s' cs esz hlt hs' hm' (by rw [hl, hS])
        · have : q' = q := by omega
          subst this
          rw [hm, em] at hm'; cases hm'
      · rw [hS]
        exact t6 b B hb fun q' s' m hq hs' hm hl => hno q' s' m (by omega) hs' hm (by rw [hS]; exact hl)
    cases hd with
    | skip hb => exact same rfl rfl rfl hb
    | unw a' hb hw hput =>
      cases hh : s.heavy with
      | false => refine CF.calm hs h (by rw [hS, hh]; rfl) hm hr hput hh
      | true => refine CF.heave hs h (a' := a') (A' := (S q).A) (by rw [hS, hh]; rfl) hr hput hh (hpan hh hb) hle
    | hv v A' a' hb hw hh hop' hput => exact CF.heave hs h hS hr hput hh (hpan hh hb) hle
    | hp ch A' hb hw hh hop' =>
      have hpn := hpan hh hb
      have hhs : (S (q + 1)).hs = (S q).hs := by rw [hS]
      have hA : (S (q + 1)).A = (S q).A := by rw [hS]
      have ha : (S (q + 1)).a = (S q).a := by rw [hS]
      have hpp : (S (q + 1)).pan = some (ch, A', s.i) := by rw [hS]
      obtain ⟨X, t1, t2, t3, t4, t5, t6⟩ := h.top
      refine ⟨by rw [ha]; exact h.n, by rw [ha]; exact h.defers, fun t x hx => ?_, by rw [hhs]; exact h.pos, fun hx => (by rw [hpp] at hx; cases hx), fun ch B i hx => ?_, by rw [hhs]; exact Nat.le_trans h.le (by have := hcp_le_succ p q; omega),
        X, by rw [hhs]; exact t1, by rw [hA]; exact t2, by rw [hA]; exact t3, fun b B hb => ?_, fun q' s' cs esz hq hs' hm' hl => ?_, fun b B hb hno => ?_⟩
      · rw [ha] at hx
        rcases h.tm t x hx with ⟨q', s', f1, f2, f3, f4⟩ | ⟨f1, f2⟩
        · exact .inl ⟨q', s', by omega, f2, f3, f4⟩
        · refine .inr ⟨f1, fun q' s' hq hs' hd' => ?_⟩
          rcases Nat.lt_or_ge q' q with hlt | hge
          · exact f2 q' s' hlt hs' hd'
          · have : q' = q := by omega
            subst this
            exact hr
      · rw [hpp] at hx
        cases hx
        exact ⟨q, s, by omega, hs, rfl, hh, hr, by rw [hhs]; exact h.free hpn⟩
      · rw [hA] at hb
        rcases t4 b B hb with h1 | ⟨q', s', cs, esz, f1, f2, f3, f4, f5, f6⟩
        · exact .inl h1
        · exact .inr ⟨q', s', cs, esz, by omega, f2, f3, by rw [hhs]; exact f4, f5, f6⟩
      · rcases Nat.lt_or_ge q' q with hlt | hge
        · rw [hA]; exact t5 q' s' cs esz hlt hs' hm' (by rw [hl, hhs])
        · have : q' = q := by omega
          subst this
          rw [hm] at hm'; cases hm'
      · rw [hA]
        exact t6 b B hb fun q' s' m hq hs' hm hl => hno q' s' m (by omega) hs' hm (by rw [hhs]; exact hl)
    | ld t x pv v a' hb hw hh hop' hx hl hall hput => exact CF.calm hs h hS hm hr hput hh
    | li v a' hb hw hh hl hput => exact CF.calm hs h hS hm hr hput hh
    | mk cs esz l a' hb hw hh hmk hput =>
      obtain ⟨g1, g2, g3, g4⟩ := put_n hput
      have hhs : (S (q + 1)).hs = (S q).hs := by rw [hS]
      have hA : (S (q + 1)).A = (S q).A.put (base + s.i) (.row cs esz) := by rw [hS]
      have hp : (S (q + 1)).pan = (S q).pan := by rw [hS]
      have ha : (S (q + 1)).a = a' := by rw [hS]
      have hhc : hcp p (q + 1) = hcp p q := by rw [hcp_succ hs, hh]; rfl
      obtain ⟨X, t1, t2, t3, t4, t5, t6⟩ := h.top
      refine ⟨by rw [ha, g1, h.n], by rw [ha, g2, h.defers], fun t x hx => ?_, by rw [hhs]; exact h.pos, fun hpn => by rw [hhs, hhc]; exact h.free (hp ▸ hpn), fun ch B i hpn => ?_, by rw [hhs, hhc]; exact h.le,
        X, by rw [hhs]; exact t1, by rw [hA]; exact t2, by rw [hA]; exact t3, fun b B hb' => ?_, fun q' s' cs' esz' hq hs' hm' hl => ?_, fun b B hb' hno => ?_⟩
      · rw [ha] at hx
        rcases g3 t x hx with ⟨e1, e2⟩ | ⟨e1, e2⟩
        · exact .inl ⟨q, s, by omega, hs, e1, by rw [hr, e2]⟩
        · rcases h.tm t x e2 with ⟨q', s', f1, f2, f3, f4⟩ | ⟨f1, f2⟩
          · exact .inl ⟨q', s', by omega, f2, f3, f4⟩
          · refine .inr ⟨f1, fun q' s' hq hs' hd => ?_⟩
            rcases Nat.lt_or_ge q' q with hlt | hge
            · exact f2 q' s' hlt hs' hd
            · have : q' = q := by omega
              subst this
              exact absurd hd e1
      · obtain ⟨q', s', f1, f2, f3, f4, f5, f6⟩ := h.pan ch B i (hp ▸ hpn)
        exact ⟨q', s', by omega, f2, f3, f4, f5, by rw [hhs]; exact f6⟩
      · rw [hA, H.get_put] at hb'
        split at hb'
        · next e => cases hb'; exact .inr ⟨q, s, cs, esz, by omega, hs, hm, by rw [hhs], e, rfl⟩
        · rcases t4 b B hb' with h1 | ⟨q', s', cs', esz', f1, f2, f3, f4, f5, f6⟩
          · exact .inl h1
          · exact .inr ⟨q', s', cs', esz', by omega, f2, f3, by rw [hhs]; exact f4, f5, f6⟩
      · rw [hA, H.get_put]
        rcases Nat.lt_or_ge q' q with hlt | hge
        · have := uniq q' s' hlt hs'
          rw [if_neg (by omega)]
          exact t5 q' s' cs' esz' hlt hs' hm' (by rw [hl, hhs])
        · have : q' = q := by omega
          subst this
          rw [hs] at hs'
          cases hs'
          rw [hm] at hm'
          cases hm'
          rw [if_pos rfl]
      · rw [hA, H.get_put, if_neg (hno q s _ (by omega) hs hm (by rw [hhs]))]
        exact t6 b B hb' fun q' s' m hq hs' hm hl => hno q' s' m (by omega) hs' hm (by rw [hhs]; exact hl)

end canon
end Go.Ab
