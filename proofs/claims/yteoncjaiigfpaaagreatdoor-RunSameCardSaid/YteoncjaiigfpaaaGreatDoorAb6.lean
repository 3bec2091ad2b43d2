import Derived.Test.YteoncjaiigfpaaaGreatDoorAb5
import Derived.LoopN
import Derived.Scope
import Derived.Recover
set_option linter.all false
namespace Go.Ab

def On (listed : Array Bool) (i : Nat) : Prop := listed.getD i false = true

theorem on_set {listed : Array Bool} {i j : Nat} (hi : i < listed.size) : On (listed.setIfInBounds i true) j ↔ j = i ∨ On listed j := by
  unfold On
  simp only [Array.getD_eq_getD_getElem?]
  by_cases h : j = i
  · subst h; rw [Array.getElem?_setIfInBounds_self_of_lt hi]; simp
  · rw [Array.getElem?_setIfInBounds_ne (Ne.symm h)]; simp [h]

theorem off_of {listed : Array Bool} {i : Nat} (h : listed.getD i true = false) : ¬ On listed i ∧ i < listed.size := by
  unfold On
  simp only [Array.getD_eq_getD_getElem?] at h ⊢
  rcases Nat.lt_or_ge i listed.size with h1 | h1
  · refine ⟨?_, h1⟩
    rw [Array.getElem?_eq_getElem h1] at h ⊢
    simp at h ⊢
    exact h
  · rw [Array.getElem?_eq_none h1] at h; simp at h

theorem of_off {listed : Array Bool} {i : Nat} (h : ¬ On listed i) (hi : i < listed.size) : listed.getD i true = false := by
  unfold On at h
  simp only [Array.getD_eq_getD_getElem?] at h ⊢
  rw [Array.getElem?_eq_getElem hi] at h ⊢
  simp at h ⊢
  exact h

theorem countP_less {p p' : Nat → Bool} (h : ∀ k, p' k = true → p k = true) {i : Nat} (h1 : p i = true) (h2 : p' i = false) : ∀ {l : List Nat}, i ∈ l → l.countP p' < l.countP p
  | x :: l, hi => by
    have hle : l.countP p' ≤ l.countP p := List.countP_mono_left fun x _ hx => h x hx
    rw [List.countP_cons, List.countP_cons]
    rcases List.mem_cons.1 hi with rfl | hi
    · rw [h1, h2]; simp; omega
    · have := countP_less h h1 h2 hi
      cases hx : p' x with
      | true => rw [h x hx]; simp; exact this
      | false => simp; omega

theorem put_getD {aC : Go.Act} {dst : Option Tmp} {v : Value} {t : Tmp} (h : dst ≠ some t) : (aC.put dst v).tmps.getD t undef = aC.tmps.getD t undef := by
  cases dst with
  | none => rfl
  | some d =>
    simp only [Go.Act.put, Array.getD_eq_getD_getElem?]
    rw [Array.getElem?_setIfInBounds_ne (by intro e; exact h (by rw [e]))]

theorem put_getD_self {aC : Go.Act} {v : Value} {t : Tmp} (h : t < aC.tmps.size) : (aC.put (some t) v).tmps.getD t undef = v := by
  simp only [Go.Act.put]
  rw [getD_set _ _ _ _ h, if_pos rfl]

theorem put_defers (aC : Go.Act) (dst : Option Tmp) (v : Value) : (aC.put dst v).defers = aC.defers := by cases dst <;> rfl

theorem put_size (aC : Go.Act) (dst : Option Tmp) (v : Value) : (aC.put dst v).tmps.size = aC.tmps.size := by cases dst <;> simp [Go.Act.put]

/-- The second stands ahead of the first. -/
abbrev Bef (l : List Oper) (i j : Nat) : Prop := ((aheads l []).getD i 0).testBit j = true

theorem plan_inj {l : List Oper} {p : List Step} (F : PlanFacts l p) {q q' : Nat} {s s' : Step} (h : p[q]? = some s) (h' : p[q']? = some s') (e : s.i = s'.i) : q = q' := by
  rcases Nat.lt_trichotomy q q' with h1 | h1 | h1
  · exact absurd e ((order_spec F.order h').2.1.2 q s h1 h)
  · exact h1
  · exact absurd e.symm ((order_spec F.order h).2.1.2 q' s' h1 h')

theorem bef_earlier {l : List Oper} {p : List Step} (F : PlanFacts l p) {q q' : Nat} {s s' : Step} (h : p[q]? = some s) (h' : p[q']? = some s') (e : Bef l s.i s'.i) : q' < q := by
  rcases (order_spec F.order h).1 _ e with h1 | ⟨q2, s2, h2, h3, h4⟩
  · simp at h1
  · rw [plan_inj F h' h3 h4.symm]; exact h2

section inv
variable {P : Program} {eqv : Value → Value → Bool} {callF : CallF} {ops : Array Oper} {base : Nat} {p : List Step} {st0 : St} {S : Nat → St} {R : Nat → Option Value} {M : Nat → Option (List Value × Nat)} {O : Nat → Oper}

structure TInv (ops : Array Oper) (p : List Step) (a : Act) (R : Nat → Option Value) (O : Nat → Oper) (listed : Array Bool) (ρ : Rho) (aC : Go.Act) : Prop where
  size : listed.size = ops.size
  cl : ∀ i j, On listed i → Bef ops.toList i j → On listed j
  ok : ∀ (q : Nat) (s : Step), p[q]? = some s → On listed s.i → ∃ v, R q = some v
  tmps : aC.tmps.size = a.n
  put : ∀ (q : Nat) (s : Step) t v, p[q]? = some s → On listed s.i → (O q).dst = some t → R q = some v → VR ρ v (aC.tmps.getD t undef)
  old : ∀ t v, a.tm.get t = some v → (∀ (q : Nat) (s : Step), p[q]? = some s → On listed s.i → (O q).dst ≠ some t) → VR ρ v (aC.tmps.getD t undef)
  defers : DRs ρ a.defers aC.defers

theorem TInv.step (F : PlanFacts ops.toList p) (hO : ∀ (q : Nat) (s : Step), p[q]? = some s → ops.toList[s.i]? = some (O q)) {a : Act} {listed : Array Bool} {ρ ρ' : Rho} {aC : Go.Act} (h : TInv ops p a R O listed ρ aC) (hs : Sub ρ ρ')
    {q : Nat} {s : Step} (hq : p[q]? = some s) (hno : ¬ On listed s.i) (hah : ∀ j, Bef ops.toList s.i j → On listed j) {v v' : Value} (hR : R q = some v) (hd : ∀ d, (O q).dst = some d → d < a.n) (hv : VR ρ' v v') :
    TInv ops p a R O (listed.setIfInBounds s.i true) ρ' (aC.put (O q).dst v') := by
  have hlt : s.i < listed.size := by rw [h.size, ← Array.length_toList]; exact F.lt q s hq
  refine ⟨by rw [Array.size_setIfInBounds]; exact h.size, fun i j hi hb => ?_, fun q' s' hq' hon => ?_, by rw [put_size]; exact h.tmps, fun q' s' t x hq' hon hdst hRx => ?_, fun t x hx hnone => ?_, by rw [put_defers]; exact h.defers.mono hs⟩
  · rw [on_set hlt] at hi ⊢
    rcases hi with rfl | hi
    · exact .inr (hah j hb)
    · exact .inr (h.cl i j hi hb)
  · rcases (on_set hlt).1 hon with e | hon
    · rw [plan_inj F hq' hq e]; exact ⟨v, hR⟩
    · exact h.ok q' s' hq' hon
  · rcases (on_set hlt).1 hon with e | hon
    · have := plan_inj F hq' hq e
      subst this
      rw [hR] at hRx
      cases hRx
      rw [hdst, put_getD_self (by rw [h.tmps]; exact hd t hdst)]
      exact hv
    · rw [put_getD]
      · exact (h.put q' s' t x hq' hon hdst hRx).mono hs
      · intro e
        have := (dsts_spec F.dsts).2 (hO q s hq) (hO q' s' hq') e hdst
        rw [this] at hno
        exact hno hon
  · rw [put_getD (hnone q s hq ((on_set hlt).2 (.inl rfl)))]
    exact (h.old t x hx fun q' s' hq' hon => hnone q' s' hq' ((on_set hlt).2 (.inr hon))).mono hs

theorem tm_rel (F : PlanFacts ops.toList p) {q : Nat} (hF : CF p base st0 S R M O q) (hO : ∀ (q : Nat) (s : Step), p[q]? = some s → ops.toList[s.i]? = some (O q)) {listed : Array Bool} {ρ : Rho} {aC : Go.Act} (h : TInv ops p st0.a R O listed ρ aC)
    {s : Step} (hq : p[q]? = some s) (hno : ¬ On listed s.i) (hah : ∀ j, Bef ops.toList s.i j → On listed j) {t : Tmp}
    (ht : ∀ (j : Nat) (o' : Oper), ops.toList[j]? = some o' → o'.dst = some t → j = s.i ∨ Bef ops.toList s.i j ∨ Bef ops.toList j s.i) {v : Value} (hv : (S q).a.tm.get t = some v) : VR ρ v (aC.tmps.getD t undef) := by
  rcases hF.tm t v hv with ⟨q', s', h1, h2, h3, h4⟩ | ⟨h1, h2⟩
  · rcases ht s'.i (O q') (hO q' s' h2) h3 with e | e | e
    · have := plan_inj F h2 hq e; omega
    · exact h.put q' s' t v h2 (hah _ e) h3 h4
    · have := bef_earlier F h2 hq e; omega
  · refine h.old t v h1 fun q' s' hq' hon hd => ?_
    rcases ht s'.i (O q') (hO q' s' hq') hd with e | e | e
    · rw [e] at hon; exact hno hon
    · have := h2 q' s' (bef_earlier F hq hq' e) hq' hd
      obtain ⟨x, hx⟩ := h.ok q' s' hq' hon
      rw [this] at hx; cases hx
    · exact hno (h.cl _ _ hon e)

theorem evFor_rel (F : PlanFacts ops.toList p) {q : Nat} (hF : CF p base st0 S R M O q) (hO : ∀ (q : Nat) (s : Step), p[q]? = some s → ops.toList[s.i]? = some (O q)) {listed : Array Bool} {ρ : Rho} {aC : Go.Act} (h : TInv ops p st0.a R O listed ρ aC)
    {s : Step} (hq : p[q]? = some s) (hno : ¬ On listed s.i) (hah : ∀ j, Bef ops.toList s.i j → On listed j) {A : H} {w : World} (hr : Rel P ρ A w) : EvR ρ (evFor P (O q) (S q).a) aC.eval := by
  intro x v hx
  cases x with
  | tmp t =>
    simp only [evFor] at hx
    split at hx
    · next hc =>
      have ht : t ∈ opTmps (O q) := by simpa using hc
      exact tm_rel F hF hO h hq hno hah (fun j o' hj hd => F.tmps s.i (O q) t j o' (hO q s hq) ht hj hd) hx
    · cases hx
  | const c => exact ev_rel hr (a := { n := st0.a.n, tm := T.nil, defers := st0.a.defers }) ⟨h.tmps, fun t v ht => absurd ht (by simp [T.get]), h.defers⟩ (.const c) v hx
  | global g => exact ev_rel hr (a := { n := st0.a.n, tm := T.nil, defers := st0.a.defers }) ⟨h.tmps, fun t v ht => absurd ht (by simp [T.get]), h.defers⟩ (.global g) v hx
  | func f => exact ev_rel hr (a := { n := st0.a.n, tm := T.nil, defers := st0.a.defers }) ⟨h.tmps, fun t v ht => absurd ht (by simp [T.get]), h.defers⟩ (.func f) v hx

theorem wants_rel (F : PlanFacts ops.toList p) {q : Nat} (hF : CF p base st0 S R M O q) (hO : ∀ (q : Nat) (s : Step), p[q]? = some s → ops.toList[s.i]? = some (O q)) {listed : Array Bool} {ρ : Rho} {aC : Go.Act} (h : TInv ops p st0.a R O listed ρ aC)
    {s : Step} (hq : p[q]? = some s) (hno : ¬ On listed s.i) (hah : ∀ j, Bef ops.toList s.i j → On listed j) {b : Bool} (hw : wantedA ops (S q).a (O q) = some b) : Region.wanted (O q) (yielded ops aC.tmps) = b := by
  refine wanted_rel' (ρ := ρ) (a := (S q).a) (fun j want t v hg hd ht => ?_) hw
  refine tm_rel F hF hO h hq hno hah (fun j' o' hj' hd' => ?_) ht
  have hget : ops.toList[s.i]? = some (O q) := hO q s hq
  have hbef : Bef ops.toList s.i j := by
    refine (order_spec F.order hq).2.2.2 j want ?_
    rw [List.getD_eq_getElem?_getD, hget]
    exact hg
  cases hj : ops[j]? with
  | none => rw [hj] at hd; cases hd
  | some oj =>
    rw [hj] at hd
    rw [← Array.getElem?_toList] at hj
    have := (dsts_spec F.dsts).2 hj hj' hd hd'
    subst this
    exact .inr (.inl hbef)

/-- The heaps: so many heavy ones are done. -/
structure HInv (P : Program) (n : Nat) (base : Nat) (p : List Step) (S : Nat → St) (M : Nat → Option (List Value × Nat)) (ρ0 : Rho) (A : H) (w0 : World) (h : Nat) (listed : Array Bool) (ρ : Rho) (AL : H) (w : World) : Prop where
  hv : ∀ (q : Nat) (s : Step), p[q]? = some s → s.heavy = true → (On listed s.i ↔ hcp p q < h)
  mv : Mv P ρ0 A w0 ρ AL w
  top : ∃ X, (S p.length).hs[h]? = some X ∧ AL.next = X.next ∧ X.ro = A.ro ∧ base + n ≤ X.next ∧
    (∀ b B, AL.get b = some B ↔ X.get b = some B ∨ ∃ (q : Nat) (s : Step) (cs : List Value) (esz : Nat), p[q]? = some s ∧ On listed s.i ∧ M q = some (cs, esz) ∧ h < (S q).hs.length ∧ b = base + s.i ∧ B = .row cs esz) ∧
    ∀ (q : Nat) (s : Step) m, p[q]? = some s → M q = some m → h < (S q).hs.length → X.get (base + s.i) = none
  fresh : ∀ (q : Nat) (s : Step) m, p[q]? = some s → M q = some m → ¬ On listed s.i → ρ (base + s.i) = none

theorem heap_at (hC : Can P eqv callF ops base p st0 S R M O) {q k : Nat} (hq : q ≤ p.length) {X : H} (h : (S q).hs[k]? = some X) : (S p.length).hs[k]? = some X := by
  obtain ⟨l, hl⟩ := hs_pre hC hq (Nat.le_refl _)
  rw [hl, List.getElem?_append_left (List.getElem?_eq_some_iff.1 h).1]
  exact h

/-- A light one that isn't done: as many heavy ones are done as it has heard of at most. -/
theorem light_low (hC : Can P eqv callF ops base p st0 S R M O) (F : PlanFacts ops.toList p) (hF : ∀ q, q ≤ p.length → CF p base st0 S R M O q) {ρ0 : Rho} {A : H} {w0 : World} {h : Nat} {listed : Array Bool} {ρ : Rho} {AL : H} {w : World} {aC : Go.Act}
    (hT : TInv ops p st0.a R O listed ρ aC) (hH : HInv P ops.toList.length base p S M ρ0 A w0 h listed ρ AL w) {q : Nat} {s : Step} (hq : p[q]? = some s) (hl : s.heavy = false) (hno : ¬ On listed s.i) : h < (S q).hs.length := by
  have hqlt : q < p.length := (List.getElem?_eq_some_iff.1 hq).1
  obtain ⟨X, h1, _⟩ := hH.top
  have h2 : h < (S p.length).hs.length := (List.getElem?_eq_some_iff.1 h1).1
  have h3 := (hF p.length (Nat.le_refl _)).le
  have hle : h ≤ hcp p q := by
    rcases Nat.lt_or_ge (hcp p q) h with hlt | hge
    · obtain ⟨q', s', g1, g2, g3, g4, _⟩ := hcp_nth (p := p) (q := p.length) (k := hcp p q) (by omega)
      have hqq : q < q' := by
        rcases Nat.lt_trichotomy q q' with g | g | g
        · exact g
        · subst g; rw [hq] at g2; cases g2; rw [hl] at g3; cases g3
        · have := hcp_lt g2 g3 g; omega
      have hon := (hH.hv q' s' g2 g3).2 (by omega)
      exact absurd (hT.cl _ _ hon ((late_spec F.late hq).2.2 q' s' hqq g2 g3)) hno
    · exact hge
  have hc := hF q (by omega)
  cases hp : (S q).pan with
  | none => rw [hc.free hp]; omega
  | some x =>
    obtain ⟨ch, B, i⟩ := x
    obtain ⟨q', s', g1, g2, g3, g4, g5, g6⟩ := hc.pan ch B i hp
    have : ¬ On listed s'.i := fun hon => by
      obtain ⟨v, hv⟩ := hT.ok q' s' g2 hon
      rw [g5] at hv; cases hv
    rw [hH.hv q' s' g2 g4] at this
    omega

theorem from_low (F : PlanFacts ops.toList p) {ρ0 : Rho} {A : H} {w0 : World} {h : Nat} {listed : Array Bool} {ρ : Rho} {AL : H} {w : World}
    (hH : HInv P ops.toList.length base p S M ρ0 A w0 h listed ρ AL w) {q : Nat} {s : Step} (hq : p[q]? = some s) (hah : ∀ j, Bef ops.toList s.i j → On listed j) : s.from_ ≤ h := by
  rcases Nat.lt_or_ge h s.from_ with hlt | hge
  · obtain ⟨h1, h2, _⟩ := late_spec F.late hq
    rw [List.nil_append] at h1 h2
    obtain ⟨q', s', g1, g2, g3, g4, g5⟩ := hcp_nth (p := p) (q := q) (k := h) (Nat.lt_of_lt_of_le hlt h1)
    have hm : s'.i ∈ (heavies (p.take q)).take s.from_ := by
      refine List.mem_of_getElem? (i := h) ?_
      rw [List.getElem?_take, if_pos hlt]; exact g5
    have := (hH.hv q' s' g2 g3).1 (hah _ (h2 _ hm))
    omega
  · exact hge

/-- A light one that made nothing is done. -/
theorem HInv.light (F : PlanFacts ops.toList p) {ρ0 : Rho} {A : H} {w0 : World} {h : Nat} {listed : Array Bool} {ρ : Rho} {AL : H} {w : World}
    (hH : HInv P ops.toList.length base p S M ρ0 A w0 h listed ρ AL w) {q : Nat} {s : Step} (hq : p[q]? = some s) (hl : s.heavy = false) (hlt : s.i < listed.size) (hM : M q = none) :
    HInv P ops.toList.length base p S M ρ0 A w0 h (listed.setIfInBounds s.i true) ρ AL w := by
  obtain ⟨X, t1, t2, t3, t4, t5, t6⟩ := hH.top
  refine ⟨fun q' s' hq' hh => ?_, hH.mv, ⟨X, t1, t2, t3, t4, fun b B => ?_, t6⟩, fun q' s' m hq' hm hno => hH.fresh q' s' m hq' hm fun hon => hno ((on_set hlt).2 (.inr hon))⟩
  · rw [on_set hlt, ← hH.hv q' s' hq' hh]
    refine ⟨fun e => e.resolve_left fun e => ?_, .inr⟩
    have := plan_inj F hq' hq e
    subst this
    rw [hq] at hq'; cases hq'; rw [hl] at hh; cases hh
  · rw [t5]
    refine or_congr Iff.rfl ⟨?_, ?_⟩
    · rintro ⟨q', s', cs, esz, g1, g2, g⟩
      exact ⟨q', s', cs, esz, g1, (on_set hlt).2 (.inr g2), g⟩
    · rintro ⟨q', s', cs, esz, g1, g2, g3, g⟩
      refine ⟨q', s', cs, esz, g1, ((on_set hlt).1 g2).resolve_left fun e => ?_, g3, g⟩
      have := plan_inj F g1 hq e
      subst this
      rw [hM] at g3; cases g3

/-- A heavy one is done. -/
theorem HInv.heavy (F : PlanFacts ops.toList p) {ρ0 : Rho} {A : H} {w0 : World} {h : Nat} {listed : Array Bool} {ρ ρ' : Rho} {AL AL' A' : H} {w w' : World}
    (hH : HInv P ops.toList.length base p S M ρ0 A w0 h listed ρ AL w) {q : Nat} {s : Step} (hq : p[q]? = some s) (hl : s.heavy = true) (hlt : s.i < listed.size) (hM : M q = none) (hh : hcp p q = h)
    (hHS : (S p.length).hs[h + 1]? = some A') (hm : Mv P ρ AL w ρ' AL' w') (hn : AL'.next = A'.next) (hro : A'.ro = A.ro) (hbase : base = A.next)
    (hget : ∀ b B, AL'.get b = some B ↔ A'.get b = some B ∨ ∃ (q : Nat) (s : Step) (cs : List Value) (esz : Nat), p[q]? = some s ∧ On listed s.i ∧ M q = some (cs, esz) ∧ h + 1 < (S q).hs.length ∧ b = base + s.i ∧ B = .row cs esz)
    (hnone : ∀ (q : Nat) (s : Step) m, p[q]? = some s → M q = some m → h + 1 < (S q).hs.length → A'.get (base + s.i) = none) :
    HInv P ops.toList.length base p S M ρ0 A w0 (h + 1) (listed.setIfInBounds s.i true) ρ' AL' w' := by
  obtain ⟨X, t1, t2, t3, t4, t5, t6⟩ := hH.top
  refine ⟨fun q' s' hq' hh' => ?_, hH.mv.trans hm, ⟨A', hHS, hn, hro, ?_, fun b B => ?_, hnone⟩, fun q' s' m hq' hm' hno => ?_⟩
  · rw [on_set hlt, hH.hv q' s' hq' hh']
    constructor
    · rintro (e | e)
      · rw [plan_inj F hq' hq e, hh]; omega
      · omega
    · intro e
      rcases Nat.lt_trichotomy q' q with g | g | g
      · have := hcp_lt hq' hh' g; exact .inr (by omega)
      · subst g; rw [hq] at hq'; cases hq'; exact .inl rfl
      · have := hcp_lt hq hl g; omega
  · have := hm.next; omega
  · rw [hget]
    refine or_congr Iff.rfl ⟨?_, ?_⟩
    · rintro ⟨q', s', cs, esz, g1, g2, g⟩
      exact ⟨q', s', cs, esz, g1, (on_set hlt).2 (.inr g2), g⟩
    · rintro ⟨q', s', cs, esz, g1, g2, g3, g⟩
      refine ⟨q', s', cs, esz, g1, ((on_set hlt).1 g2).resolve_left fun e => ?_, g3, g⟩
      have := plan_inj F g1 hq e
      subst this
      rw [hM] at g3; cases g3
  · have h1 : ρ (base + s'.i) = none := hH.fresh q' s' m hq' hm' fun hon => hno ((on_set hlt).2 (.inr hon))
    have h2 := F.lt q' s' hq'
    rw [hm.ext _ (by omega)]
    exact h1

end inv
end Go.Ab

namespace Go.Ab
section draw
variable {P : Program} {eqv : Value → Value → Bool} {callF : CallF} {ops : Array Oper} {base : Nat} {p : List Step} {st0 : St} {S : Nat → St} {R : Nat → Option Value} {M : Nat → Option (List Value × Nat)} {O : Nat → Oper}

theorem pan_stays (hC : Can P eqv callF ops base p st0 S R M O) {q q' : Nat} (h : q ≤ q') (hq : q' ≤ p.length) {x} (hx : (S q).pan = some x) : (S q').pan = some x := by
  induction h with
  | refl => exact hx
  | @step m hm ih =>
    have ih := ih (by omega)
    have hlt : m < p.length := hq
    obtain ⟨_, hd⟩ := hC.step m p[m] (List.getElem?_eq_getElem hlt)
    generalize hS : S (m + 1) = st' at hd
    generalize R m = r at hd
    generalize M m = mm at hd
    cases hd with
    | hp ch A' hb hw hh hop =>
      exfalso
      unfold blocked at hb
      rw [ih, hh] at hb
      simp at hb
    | _ => exact ih

/-- What holds where a drawn region is left. -/
structure DPost (P : Program) (ρ0 : Rho) (A : H) (w0 : World) (a : Act) (ops : Array Oper) (fin : St) (Q : Exit → Go.Act → World → Prop) : Prop where
  nor : fin.pan = none → ∀ ρ' aC' w', Mv P ρ0 A w0 ρ' fin.A w' → AR ρ' fin.a aC' → Q .normal aC' w'
  pan : ∀ ch A' i, fin.pan = some (ch, A', i) → ∀ ρ' ch' aC' w', Mv P ρ0 A w0 ρ' A' w' → AR ρ' { a with tm := a.tm.eraseAll (ops.toList.filterMap (·.dst)) } aC' → CR ρ' ch ch' → Q (.panic ch') aC' w'

theorem draw_done (hC : Can P eqv callF ops base p st0 S R M O) (F : PlanFacts ops.toList p) (hF : ∀ q, q ≤ p.length → CF p base st0 S R M O q) {ρ0 : Rho} {A : H} {w0 : World} {Q : Exit → Go.Act → World → Prop}
    (hP : DPost P ρ0 A w0 st0.a ops (S p.length) Q) {h : Nat} {listed : Array Bool} {ρ : Rho} {AL : H} {w : World} {aC : Go.Act} (hT : TInv ops p st0.a R O listed ρ aC) (hH : HInv P ops.toList.length base p S M ρ0 A w0 h listed ρ AL w)
    (hall : ∀ i, i < ops.size → On listed i) : Q .normal aC w := by
  have hon : ∀ (q : Nat) (s : Step), p[q]? = some s → On listed s.i := fun q s hq => hall _ (by rw [← Array.length_toList]; exact F.lt q s hq)
  have hc := hF p.length (Nat.le_refl _)
  have hpan : (S p.length).pan = none := by
    cases hp : (S p.length).pan with
    | none => rfl
    | some x =>
      obtain ⟨ch, B, i⟩ := x
      obtain ⟨q', s', g1, g2, g3, g4, g5, g6⟩ := hc.pan ch B i hp
      obtain ⟨v, hv⟩ := hT.ok q' s' g2 (hon q' s' g2)
      rw [g5] at hv; cases hv
  obtain ⟨X, t1, t2, t3, t4, t5, t6⟩ := hH.top
  have hlen := hc.free hpan
  have h2 : h < (S p.length).hs.length := (List.getElem?_eq_some_iff.1 t1).1
  have hh : h = hcp p p.length := by
    rcases Nat.lt_or_ge h (hcp p p.length) with g | g
    · obtain ⟨q', s', g1, g2, g3, g4, _⟩ := hcp_nth g
      have := (hH.hv q' s' g2 g3).1 (hon q' s' g2)
      omega
    · omega
  obtain ⟨X', u1, u2, u3, u4, u5, u6⟩ := hc.top
  have hX : X' = X := by
    have : (S p.length).hs.length - 1 = h := by omega
    rw [this, t1] at u1
    cases u1; rfl
  subst hX
  refine hP.nor hpan ρ aC w (hH.mv.weaken (fun b B hb => ?_) (by rw [u2, t2]) (by rw [u3, t3, hH.mv.ro])) ⟨by rw [hT.tmps, hc.n], fun t v ht => ?_, by rw [hc.defers]; exact hT.defers⟩
  · rw [t5]
    rcases u4 b B hb with g | ⟨q', s', cs, esz, g1, g2, g3, g4, g5, g6⟩
    · exact .inl g
    · exact .inr ⟨q', s', cs, esz, g2, hon q' s' g2, g3, by omega, g5, g6⟩
  · rcases hc.tm t v ht with ⟨q', s', g1, g2, g3, g4⟩ | ⟨g1, g2⟩
    · exact hT.put q' s' t v g2 (hon q' s' g2) g3 g4
    · refine hT.old t v g1 fun q' s' hq' ho hd => ?_
      have := g2 q' s' (List.getElem?_eq_some_iff.1 hq').1 hq' hd
      obtain ⟨x, hx⟩ := hT.ok q' s' hq' ho
      rw [this] at hx; cases hx

theorem draw_step (hcs : CallSound P callF) (heqv : ∀ x y, eqv x y = true → x = y) (hC : Can P eqv callF ops base p st0 S R M O) (F : PlanFacts ops.toList p) (hF : ∀ q, q ≤ p.length → CF p base st0 S R M O q) {ρ0 : Rho} {A : H} {w0 : World} (hbase : base = A.next) (hroA : A.ro ≤ A.next) {Q : Exit → Go.Act → World → Prop}
    (hP : DPost P ρ0 A w0 st0.a ops (S p.length) Q) {h : Nat} {listed : Array Bool} {ρ : Rho} {AL : H} {w : World} {aC : Go.Act} (hT : TInv ops p st0.a R O listed ρ aC) (hH : HInv P ops.toList.length base p S M ρ0 A w0 h listed ρ AL w)
    {i : Nat} (hi : i ∈ Region.ready .any ops listed) {K : Go.Act → World → Prop}
    (hK : ∀ h' ρ' AL' w' aC', TInv ops p st0.a R O (listed.setIfInBounds i true) ρ' aC' → HInv P ops.toList.length base p S M ρ0 A w0 h' (listed.setIfInBounds i true) ρ' AL' w' → K aC' w') : wpOp P ops Q i K aC w := by
  obtain ⟨hun, o, hget, hall⟩ := mem_ready.1 hi
  obtain ⟨hno, hlt⟩ := off_of hun
  have hlt' : i < ops.toList.length := by rw [Array.length_toList, ← hT.size]; exact hlt
  obtain ⟨q, s, hq, rfl⟩ := F.all i hlt'
  have hO : ∀ (q : Nat) (s : Step), p[q]? = some s → ops.toList[s.i]? = some (O q) := fun q s hq => (hC.step q s hq).1
  have hoq : o = O q := by
    have := hO q s hq
    rw [Array.getElem?_toList, hget] at this
    exact (Option.some.inj this)
  subst hoq
  have hqlt : q < p.length := (List.getElem?_eq_some_iff.1 hq).1
  have hah : ∀ j, Bef ops.toList s.i j → On listed j := by
    intro j hb
    obtain ⟨e, h1, h2, h3⟩ := ah_bit (hO q s hq) hb
    have hon := hall e (by simpa using h1) h2
    rcases h3 with rfl | h3
    · exact hon
    · exact hT.cl _ _ hon h3
  have hc := hF q (by omega)
  have hr := hH.mv.rel
  have hd := (hC.step q s hq).2
  have hcn := hc.n
  obtain ⟨X, t1, t2, t3, t4, t5, t6⟩ := hH.top
  -- a heavy one: all that stands before it in the plan is done
  have hheavy : s.heavy = true → hcp p q = h ∧ (∀ (q' : Nat) (s' : Step), q' < q → p[q']? = some s' → On listed s'.i) ∧ (S q).pan = none ∧ (S q).hs.length = h + 1 := by
    intro hh
    have h1 : ¬ hcp p q < h := fun g => hno ((hH.hv q s hq hh).2 g)
    have h3 : ∀ (q' : Nat) (s' : Step), q' < q → p[q']? = some s' → On listed s'.i := fun q' s' g1 g2 => hah _ ((late_spec F.late g2).2.2 q s g1 hq hh)
    have h2 : hcp p q = h := by
      rcases Nat.lt_or_ge h (hcp p q) with g | g
      · obtain ⟨q', s', g1, g2, g3, g4, _⟩ := hcp_nth g
        have := (hH.hv q' s' g2 g3).1 (h3 q' s' g1 g2)
        omega
      · omega
    have h4 : (S q).pan = none := by
      cases hp : (S q).pan with
      | none => rfl
      | some x =>
        obtain ⟨ch, B, i⟩ := x
        obtain ⟨q', s', g1, g2, g3, g4, g5, g6⟩ := hc.pan ch B i hp
        obtain ⟨v, hv⟩ := hT.ok q' s' g2 (h3 q' s' g1 g2)
        rw [g5] at hv; cases hv
    exact ⟨h2, h3, h4, by rw [hc.free h4, h2]⟩
  have hpre : s.heavy = true → (S q).A.next = AL.next ∧ (S q).A.ro = AL.ro ∧ (∀ b B, (S q).A.get b = some B → AL.get b = some B) ∧
      ((S (q + 1)).hs.length = h + 2 → ∀ b B, AL.get b = some B → (S q).A.get b = some B ∨ ∃ (q : Nat) (s : Step) (cs : List Value) (esz : Nat), p[q]? = some s ∧ On listed s.i ∧ M q = some (cs, esz) ∧ h + 1 < (S q).hs.length ∧ b = base + s.i ∧ B = .row cs esz) ∧
      (∀ (q' : Nat) (s' : Step) m, p[q']? = some s' → M q' = some m → h + 1 < (S q').hs.length → (S q).A.get (base + s'.i) = none) := by
    intro hh
    obtain ⟨e1, e2, e3, e4⟩ := hheavy hh
    obtain ⟨X', u1, u2, u3, u4, u5, u6⟩ := hc.top
    have hX : X' = X := by
      have := heap_at hC (by omega) u1
      rw [e4, show h + 1 - 1 = h from by omega, t1] at this
      cases this; rfl
    subst hX
    refine ⟨by rw [u2, t2], by rw [u3, t3, hH.mv.ro], fun b B hb => ?_, fun hl2 b B hb => ?_, fun q' s' m hq' hm hl => ?_⟩
    · rw [t5]
      rcases u4 b B hb with g | ⟨q', s', cs, esz, g1, g2, g3, g4, g5, g6⟩
      · exact .inl g
      · exact .inr ⟨q', s', cs, esz, g2, e2 q' s' g1 g2, g3, by omega, g5, g6⟩
    · rcases (t5 b B).1 hb with g | ⟨q', s', cs, esz, g1, g2, g3, g4, g5, g6⟩
      · refine .inl (u6 b B g fun q' s' m g1 g2 g3 g4 e => ?_)
        rw [e, t6 q' s' m g2 g3 (by omega)] at g
        cases g
      · rcases Nat.lt_or_ge q' q with hlt2 | hge
        · subst g5; subst g6
          have := hs_len hC (Nat.le_of_lt hlt2) (by omega : q ≤ p.length)
          exact .inl (u5 q' s' cs esz hlt2 g1 g3 (by omega))
        · refine .inr ⟨q', s', cs, esz, g1, g2, g3, ?_, g5, g6⟩
          have hne : q' ≠ q := by
            rintro rfl
            rw [hq] at g1; cases g1
            exact hno g2
          have hq'lt : q' < p.length := (List.getElem?_eq_some_iff.1 g1).1
          have := hs_len hC (by omega : q + 1 ≤ q') (by omega)
          omega
    · have h1 : X'.get (base + s'.i) = none := t6 q' s' m hq' hm (by omega)
      cases hg : (S q).A.get (base + s'.i) with
      | none => rfl
      | some B =>
        rcases u4 _ _ hg with g | ⟨q2, s2, cs, esz, g1, g2, g3, g4, g5, g6⟩
        · rw [h1] at g; cases g
        · have : q2 = q' := plan_inj F g2 hq' (by omega)
          subst this
          omega
  -- the light ones
  have hlight : s.heavy = false → ∀ {v v' : Value} {a' : Act}, M q = none → R q = some v → (S q).a.put (O q).dst v = some a' → VR ρ v v' → K (aC.put (O q).dst v') w := by
    intro hh v v' a' hM hR hput hv
    refine hK h ρ AL w _ (hT.step F hO (Sub.refl _) hq hno hah hR (fun d hd => ?_) hv) (hH.light F hq hh hlt hM)
    rw [← hcn]; exact (put_n hput).2.2.2 d hd
  have hlive : blocked ops s (S q) = true → False := by
    intro hb
    unfold blocked at hb
    cases hh : s.heavy with
    | true => rw [(hheavy hh).2.2.1] at hb; cases hb
    | false =>
      split at hb
      · next ch B i' hp =>
        obtain ⟨q', s', g1, g2, g3, g4, g5, g6⟩ := hc.pan ch B i' hp
        rw [hh, Bool.false_or, ← g3] at hb
        obtain ⟨v, hv⟩ := hT.ok q' s' g2 (hah _ hb)
        rw [g5] at hv; cases hv
      · cases hb
  unfold wpOp
  rw [hget]
  simp only
  generalize hS : S (q + 1) = st' at hd
  generalize hR : R q = r at hd
  generalize hM : M q = m at hd
  cases hd with
  | skip hb => exact (hlive hb).elim
  | unw a' hb hw hput =>
    rw [wants_rel F hc hO hT hq hno hah hw, if_neg (by decide)]
    cases hh : s.heavy with
    | false => exact hlight hh hM hR hput (.tuple _ _ .nil)
    | true =>
      obtain ⟨e1, e2, e3, e4⟩ := hheavy hh
      obtain ⟨p1, p2, p3, p4, p5⟩ := hpre hh
      have hhs : (S (q + 1)).hs = (S q).hs ++ [(S q).A] := by rw [hS, hh]; rfl
      refine hK (h + 1) ρ AL w _ (hT.step F hO (Sub.refl _) hq hno hah hR (fun d hd => (by rw [← hcn]; exact (put_n hput).2.2.2 d hd)) (.tuple _ _ .nil)) ?_
      refine hH.heavy F hq hh hlt hM e1 (A' := (S q).A) ?_ (Mv.refl hr) p1.symm (by rw [p2, hH.mv.ro]) hbase (fun b B => ⟨p4 (by rw [hhs]; simp [e4]) b B, fun g => ?_⟩) p5
      · refine heap_at hC (q := q + 1) (by omega) ?_
        rw [hhs, List.getElem?_append_right (by omega), e4]; simp
      · rcases g with g | ⟨q', s', cs, esz, g1, g2, g3, g4, g5, g6⟩
        · exact p3 b B g
        · exact (t5 b B).2 (.inr ⟨q', s', cs, esz, g1, g2, g3, by omega, g5, g6⟩)
  | hv v A' a' hb hw hh hop hput =>
    rw [wants_rel F hc hO hT hq hno hah hw, if_pos rfl]
    refine .inl ?_
    obtain ⟨e1, e2, e3, e4⟩ := hheavy hh
    obtain ⟨p1, p2, p3, p4, p5⟩ := hpre hh
    refine aOp_sound hcs (hr.weaken p3 p1 p2) (evFor_rel F hc hO hT hq hno hah hr) hop ⟨fun v0 hv0 ρ' v' w' hm hv => ?_, (fun d hd => by cases hd), (fun ch hch => by cases hch)⟩
    cases hv0
    obtain ⟨AL', l1, l2, l3⟩ := Mv.lift hr p3 p1 p2 hm
    have hhs : (S (q + 1)).hs = (S q).hs ++ [A'] := by rw [hS]
    have hnn : ∀ (q' : Nat) (s' : Step) m, p[q']? = some s' → M q' = some m → h + 1 < (S q').hs.length → A'.get (base + s'.i) = none := by
      intro q' s' m hq' hm' hl
      have := F.lt q' s' hq'
      exact hm.dead _ (by rw [p1, t2]; omega) (p5 q' s' m hq' hm' hl)
    refine hK (h + 1) ρ' AL' w' _ (hT.step F hO (l1.sub hr) hq hno hah hR (fun d hd => (by rw [← hcn]; exact (put_n hput).2.2.2 d hd)) hv) ?_
    refine hH.heavy F hq hh hlt hM e1 (A' := A') ?_ l1 l2 (by rw [hm.ro, p2, hH.mv.ro]) hbase (fun b B => ?_) hnn
    · refine heap_at hC (q := q + 1) (by omega) ?_
      rw [hhs, List.getElem?_append_right (by omega), e4]; simp
    · rw [l3]
      refine or_congr Iff.rfl ⟨?_, ?_⟩
      · rintro ⟨k1, k2, k3⟩
        rcases p4 (by rw [hhs]; simp [e4]) b B k3 with g | g
        · rw [k2] at g; cases g
        · exact g
      · rintro ⟨q', s', cs, esz, g1, g2, g3, g4, g5, g6⟩
        refine ⟨g5 ▸ hnn q' s' _ g1 g3 g4, g5 ▸ p5 q' s' _ g1 g3 g4, (t5 b B).2 (.inr ⟨q', s', cs, esz, g1, g2, g3, by omega, g5, g6⟩)⟩
  | hp ch A' hb hw hh hop =>
    rw [wants_rel F hc hO hT hq hno hah hw, if_pos rfl]
    refine .inl ?_
    obtain ⟨e1, e2, e3, e4⟩ := hheavy hh
    obtain ⟨p1, p2, p3, p4, p5⟩ := hpre hh
    refine aOp_sound hcs (hr.weaken p3 p1 p2) (evFor_rel F hc hO hT hq hno hah hr) hop ⟨(fun v0 hv0 => by cases hv0), (fun d hd => by cases hd), fun ch0 hch ρ' ch' w' hm hcr => ?_⟩
    cases hch
    obtain ⟨AL', l1, l2, l3⟩ := Mv.lift hr p3 p1 p2 hm
    have hpan : (S p.length).pan = some (ch, A', s.i) := pan_stays hC (by omega : q + 1 ≤ p.length) (Nat.le_refl _) (by rw [hS])
    refine hP.pan ch A' s.i hpan ρ' ch' aC w' ((hH.mv.trans l1).weaken (fun b B hb => (l3 b B).2 (.inl hb)) l2.symm ?_) ⟨hT.tmps, fun t v ht => ?_, (hT.defers.mono (l1.sub hr))⟩ hcr
    · rw [hm.ro, p2, l1.ro]
    · simp only [T.get_eraseAll] at ht
      split at ht
      · cases ht
      · next hnin =>
        refine (hT.old t v ht fun q' s' hq' hon hd => hnin ?_).mono (l1.sub hr)
        exact List.mem_filterMap.2 ⟨O q', List.mem_of_getElem? (hO q' s' hq'), hd⟩
  | ld t x pv v a' hb hw hh hop hx hl hall2 hput =>
    rw [wants_rel F hc hO hT hq hno hah hw, if_pos rfl]
    refine .inl ?_
    have hlow := light_low hC F hF hT hH hq hh hno
    have hfrom := from_low F hH hq hah
    have hXin : (S q).hs[h]? = some X := by
      cases hg : (S q).hs[h]? with
      | none => rw [List.getElem?_eq_none_iff] at hg; omega
      | some Y =>
        have := heap_at hC (by omega) hg
        rw [t1] at this; exact this.symm
    have hmem : X ∈ (S q).hs.drop s.from_ := by
      refine List.mem_of_getElem? (i := h - s.from_) ?_
      rw [List.getElem?_drop, show s.from_ + (h - s.from_) = h from by omega]; exact hXin
    obtain ⟨u, hu, hvu⟩ := hall2 X hmem
    have := heqv _ _ hvu
    subst this
    have hrX : Rel P ρ X w := hr.weaken (fun b B hb => (t5 b B).2 (.inl hb)) t2.symm (by rw [t3, hH.mv.ro])
    have hxR := evFor_rel F hc hO hT hq hno hah hr x pv hx
    obtain ⟨v', k1, k2⟩ := load_sound hrX hu hxR
    have hrun : (execOp aC.eval (O q)).run P w = .ok (.value v') w := by simp [execOp, hop, k1]
    unfold Oper.wp
    rw [hrun]
    exact hlight hh hM hR hput k2
  | li v a' hb hw hh hl hput =>
    rw [wants_rel F hc hO hT hq hno hah hw, if_pos rfl]
    refine .inl ?_
    obtain ⟨v', k1, k2⟩ := light_sound (evFor_rel F hc hO hT hq hno hah hr) hl w
    unfold Oper.wp
    rw [k1]
    exact hlight hh hM hR hput k2
  | mk cs esz l a' hb hw hh hmk hput =>
    rw [wants_rel F hc hO hT hq hno hah hw, if_pos rfl]
    refine .inl ?_
    obtain ⟨k0, arr, el, k1, k2⟩ := make_sound (evFor_rel F hc hO hT hq hno hah hr) hmk
    have hlow := light_low hC F hF hT hH hq hh hno
    have hfr : ρ (base + s.i) = none := hH.fresh q s _ hq hM hno
    have hpush := hH.mv.pushAt (id := base + s.i) (by omega) (by omega) hfr hroA k1 el esz
    unfold Oper.wp
    rw [k2 w]
    have hsub : Sub ρ (ρ.put (base + s.i) ⟨w.heap.size, 0, esz, arr.size⟩) := by
      intro b L hb
      unfold Rho.put
      split
      · next e => subst e; rw [hfr] at hb; cases hb
      · exact hb
    have hval : VR (ρ.put (base + s.i) ⟨w.heap.size, 0, esz, arr.size⟩) (LR.mk (base + s.i) (.row cs esz l)) (mkC w.heap.size l) := by
      cases l with
      | none => exact .ptr (base + s.i) 0 _ (Rho.put_self _ _ _)
      | some n => exact .slice (base + s.i) 0 n n _ (k0 n rfl) (Rho.put_self _ _ _)
    refine hK h _ _ _ _ (hT.step F hO hsub hq hno hah hR (fun d hd => (by rw [← hcn]; exact (put_n hput).2.2.2 d hd)) hval) ⟨fun q' s' hq' hh' => ?_, hpush, ⟨X, t1, t2, t3, t4, fun b B => ?_, t6⟩, fun q' s' m hq' hm hno' => ?_⟩
    · rw [on_set hlt, ← hH.hv q' s' hq' hh']
      refine ⟨fun e => e.resolve_left fun e => ?_, .inr⟩
      have := plan_inj F hq' hq e
      subst this
      rw [hq] at hq'; cases hq'; rw [hh] at hh'; cases hh'
    · rw [H.get_put]
      split
      · next e =>
        subst e
        constructor
        · intro g; cases g
          exact .inr ⟨q, s, cs, esz, hq, (on_set hlt).2 (.inl rfl), hM, hlow, rfl, rfl⟩
        · rintro (g | ⟨q', s', cs', esz', g1, g2, g3, g4, g5, g6⟩)
          · rw [t6 q s _ hq hM hlow] at g; cases g
          · have := plan_inj F g1 hq (by omega)
            subst this
            rw [hM] at g3; cases g3
            rw [g6]
      · next e =>
        rw [t5]
        refine or_congr Iff.rfl ⟨?_, ?_⟩
        · rintro ⟨q', s', cs', esz', g1, g2, g⟩
          exact ⟨q', s', cs', esz', g1, (on_set hlt).2 (.inr g2), g⟩
        · rintro ⟨q', s', cs', esz', g1, g2, g3, g4, g5, g⟩
          exact ⟨q', s', cs', esz', g1, ((on_set hlt).1 g2).resolve_left fun e' => e (by rw [g5, e']), g3, g4, g5, g⟩
    · unfold Rho.put
      rw [if_neg]
      · exact hH.fresh q' s' m hq' hm fun hon => hno' ((on_set hlt).2 (.inr hon))
      · intro e
        have := plan_inj F hq' hq (by omega)
        subst this
        rw [hq] at hq'; cases hq'
        exact hno' ((on_set hlt).2 (.inl rfl))

theorem draw_any (hcs : CallSound P callF) (heqv : ∀ x y, eqv x y = true → x = y) (hC : Can P eqv callF ops base p st0 S R M O) (F : PlanFacts ops.toList p) (hF : ∀ q, q ≤ p.length → CF p base st0 S R M O q) {ρ0 : Rho} {A : H} {w0 : World} (hbase : base = A.next) (hroA : A.ro ≤ A.next) {Q : Exit → Go.Act → World → Prop}
    (hP : DPost P ρ0 A w0 st0.a ops (S p.length) Q) : ∀ (fuel : Nat) {h : Nat} {listed : Array Bool} {ρ : Rho} {AL : H} {w : World} {aC : Go.Act}, TInv ops p st0.a R O listed ρ aC → HInv P ops.toList.length base p S M ρ0 A w0 h listed ρ AL w →
      (List.range ops.size).countP (fun k => !listed.getD k false) ≤ fuel → wpAny P .any ops Q fuel listed aC w := by
  have none : ∀ {h : Nat} {listed : Array Bool} {ρ : Rho} {AL : H} {w : World} {aC : Go.Act}, TInv ops p st0.a R O listed ρ aC → HInv P ops.toList.length base p S M ρ0 A w0 h listed ρ AL w → Region.ready .any ops listed = [] → Q .normal aC w := by
    intro h listed ρ AL w aC hT hH hnil
    refine draw_done hC F hF hP hT hH fun i => ?_
    induction i using Nat.strongRecOn with
    | _ i ih =>
      intro hi
      refine Classical.byContradiction fun hno => ?_
      have : i ∈ Region.ready .any ops listed := by
        refine mem_ready.2 ⟨of_off hno (by rw [hT.size]; exact hi), ops[i], Array.getElem?_eq_getElem hi, fun e he hb => ?_⟩
        have := edgesBack_spec F.back (j := i) (o := ops[i]) (by rw [Array.getElem?_toList]; exact Array.getElem?_eq_getElem hi) e (by simpa using he) hb
        exact ih e.on (by omega) (by omega)
      rw [hnil] at this
      cases this
  intro fuel
  induction fuel with
  | zero =>
    intro h listed ρ AL w aC hT hH hcnt
    have hnil : Region.ready .any ops listed = [] := by
      cases hr : Region.ready .any ops listed with
      | nil => rfl
      | cons x xs =>
        exfalso
        obtain ⟨hun, _⟩ := mem_ready.1 (show x ∈ Region.ready .any ops listed by rw [hr]; simp)
        obtain ⟨hno, hlt⟩ := off_of hun
        have h0 : (List.range ops.size).countP (fun k => !listed.getD k false) = 0 := by omega
        rw [List.countP_eq_zero] at h0
        have := h0 x (List.mem_range.2 (by rw [← hT.size]; exact hlt))
        unfold On at hno
        simp at this
        exact hno (by simpa using this)
    exact ⟨hnil, none hT hH hnil⟩
  | succ fuel ih =>
    intro h listed ρ AL w aC hT hH hcnt
    refine ⟨none hT hH, fun i hi => ?_⟩
    obtain ⟨hun, _⟩ := mem_ready.1 hi
    obtain ⟨hno, hlt⟩ := off_of hun
    refine draw_step hcs heqv hC F hF hbase hroA hP hT hH hi fun h' ρ' AL' w' aC' hT' hH' => ih hT' hH' ?_
    have hon : ∀ k, On (listed.setIfInBounds i true) k ↔ k = i ∨ On listed k := fun k => on_set hlt
    have := countP_less (p := fun k => !listed.getD k false) (p' := fun k => !(listed.setIfInBounds i true).getD k false) (i := i) (fun k hk => ?_) ?_ ?_ (l := List.range ops.size) (List.mem_range.2 (by rw [← hT.size]; exact hlt))
    · omega
    · have hk' : ¬ On (listed.setIfInBounds i true) k := by unfold On; simpa using hk
      rw [hon] at hk'
      have : ¬ On listed k := fun g => hk' (.inr g)
      unfold On at this
      simpa using this
    · unfold On at hno; simpa using hno
    · have := (hon i).2 (.inl rfl)
      unfold On at this
      simp only [this, Bool.not_true]

end draw

section region
variable {P : Program}

theorem region_draw (hm : P.follows .mixedOrders = true) {eqv : Value → Value → Bool} (heqv : ∀ x y, eqv x y = true → x = y) {callF : CallF} (hcs : CallSound P callF) {ops : Array Oper} {id : Nat} {ρ : Rho} {A : H} {w : World} {a : Act} {aC : Go.Act} {e : AExit} {a' : Act} {A' : H}
    {Q : Exit → Go.Act → World → Prop} (h : aDraw P eqv callF ops a A = some (e, a', A')) (hr : Rel P ρ A w) (ha : AR ρ a aC) (hp : Post P ρ A w e a' A' Q) : (Code.region id ops true).wp P Q aC w := by
  unfold aDraw at h
  simp only at h
  split at h
  · next hok =>
    have F := planFacts hok
    cases hrun : dRun P eqv callF ops (aheads ops.toList []) A.next (plan ops.toList) { a, A := { A with next := A.next + ops.toList.length }, hs := [{ A with next := A.next + ops.toList.length }], pan := none } with
    | none => rw [hrun] at h; cases h
    | some fin =>
      rw [hrun] at h
      obtain ⟨S, R, M, O, hC, hfin⟩ := can_of_run P eqv callF ops A.next hrun
      have hF := cf_all hC F rfl rfl
      have hr1 : Rel P ρ A { w with drawn := w.drawn + 1 } := hr.draw _
      have hmv : Mv P ρ A w ρ { A with next := A.next + ops.toList.length } { w with drawn := w.drawn + 1 } := by
        have hg : ∀ b, ({ A with next := A.next + ops.toList.length } : H).get b = A.get b := fun b => rfl
        refine ⟨⟨hr1.blk, hr1.inj, hr1.low, fun b hb => hr1.new b (Nat.le_trans (Nat.le_add_right _ _) hb), Nat.le_trans hr1.ro (Nat.le_add_right _ _), hr1.glob⟩, fun _ _ => rfl, Nat.le_add_right _ _, rfl, fun _ _ _ h => h, fun _ _ h => h, fun b B L hb hr hL => .inr ⟨b, B, L, hb, hr, hL, rfl⟩, Nat.le_refl _, fun _ _ _ => rfl, rfl, rfl, rfl⟩
      have hno : ∀ k, ¬ On (Array.replicate ops.size false) k := by
        intro k
        unfold On
        simp only [Array.getD_eq_getD_getElem?, Array.getElem?_replicate]
        split <;> simp
      refine wp_region_any hm ?_
      refine draw_any hcs heqv hC F hF rfl hr.ro (ρ0 := ρ) (w0 := w) ⟨fun hpan => ?_, fun ch A1 i hpan => ?_⟩ ops.size (h := 0) (ρ := ρ) (AL := { A with next := A.next + ops.toList.length }) ⟨by simp, fun i j hi => absurd hi (hno i), fun q s _ hon => absurd hon (hno _), ha.size, fun q s t v _ hon => absurd hon (hno _), fun t v ht _ => ha.tm t v ht, ha.defers⟩
        ⟨fun q s _ _ => ⟨fun hon => absurd hon (hno _), fun hlt => absurd hlt (by omega)⟩, hmv, ?_, fun q s m hq _ _ => hr.new _ (Nat.le_add_right _ _)⟩ ?_
      · rw [hfin] at hpan ⊢
        obtain ⟨fa, fA, fhs, fpan⟩ := fin
        simp only at hpan
        subst hpan
        simp only [Option.some.injEq, Prod.mk.injEq] at h
        obtain ⟨rfl, rfl, rfl⟩ := h
        exact fun ρ' aC' w' h1 h2 => hp ρ' _ aC' w' h1 h2 .normal
      · rw [hfin] at hpan
        obtain ⟨fa, fA, fhs, fpan⟩ := fin
        simp only at hpan
        subst hpan
        simp only [Option.some.injEq, Prod.mk.injEq] at h
        obtain ⟨rfl, rfl, rfl⟩ := h
        exact fun ρ' ch' aC' w' h1 h2 h3 => hp ρ' _ aC' w' h1 h2 (.panic _ _ h3)
      · refine ⟨{ A with next := A.next + ops.toList.length }, heap_at hC (Nat.zero_le _) (by rw [hC.zero]; rfl), rfl, rfl, Nat.le_refl _, fun b B => ⟨.inl, fun g => g.elim (fun g => g) fun ⟨q, s, cs, esz, _, hon, _⟩ => absurd hon (hno _)⟩, fun q s m hq hm hl => ?_⟩
        show A.get _ = none
        cases hg : A.get (A.next + s.i) with
        | none => rfl
        | some B => have := hr.lt hg; omega
      · exact Nat.le_trans List.countP_le_length (by simp)
  · cases h

end region
end Go.Ab

namespace Go.Ab

theorem sameVal_sound : ∀ (n : Nat) (x y : Value), sameVal n x y = true → x = y := by
  have lists : ∀ (n : Nat), (∀ x y, sameVal n x y = true → x = y) → ∀ (l m : List Value), (l.length == m.length && (l.zip m).all fun (x, y) => sameVal n x y) = true → l = m := by
    intro n ih l
    induction l with
    | nil => intro m h; cases m with | nil => rfl | cons y ys => simp at h
    | cons x xs ihl =>
      intro m h
      cases m with
      | nil => simp at h
      | cons y ys =>
        simp only [List.length_cons, List.zip_cons_cons, List.all_cons, Bool.and_eq_true, beq_iff_eq] at h
        obtain ⟨h1, h2, h3⟩ := h
        rw [ih x y h2, ihl ys (by simp only [Bool.and_eq_true, beq_iff_eq]; exact ⟨by omega, h3⟩)]
  have arrs : ∀ (n : Nat), (∀ x y, sameVal n x y = true → x = y) → ∀ (a b : Array Value), (a.toList.length == b.toList.length && (a.toList.zip b.toList).all fun (x, y) => sameVal n x y) = true → a = b :=
    fun n ih a b h => Array.toList_inj.1 (lists n ih _ _ h)
  intro n
  induction n with
  | zero =>
    intro x y h
    unfold sameVal at h
    split at h <;> first | (cases h; done) | skip
    all_goals first
      | (exfalso; omega)
      | rfl
      | (have := eq_of_beq h; simp_all; done)
      | (simp only [Bool.and_eq_true, beq_iff_eq] at h; obtain ⟨h1, h2⟩ := h; subst h1; subst h2; rfl)
      | (simp only [Bool.and_eq_true, beq_iff_eq] at h; obtain ⟨⟨h1, h2⟩, h3⟩ := h; subst h1; subst h2; subst h3; rfl)
      | (next a b => obtain ⟨⟨a⟩⟩ := a; obtain ⟨⟨b⟩⟩ := b; have := eq_of_beq h; simp at this; rw [this])
  | succ n ih =>
    intro x y h
    unfold sameVal at h
    split at h
    · rw [eq_of_beq h]
    · simp only [Bool.and_eq_true, beq_iff_eq] at h; rw [h.1, h.2]
    · next a b => obtain ⟨⟨a⟩⟩ := a; obtain ⟨⟨b⟩⟩ := b; have := eq_of_beq h; simp at this; rw [this]
    · rw [eq_of_beq h]
    · simp only [Bool.and_eq_true, beq_iff_eq] at h; rw [h.1.1, h.1.2, h.2]
    · rw [eq_of_beq h]
    · rfl
    · rfl
    · next m t v u w e => cases e; simp only [Bool.and_eq_true, beq_iff_eq] at h; rw [h.1, ih _ _ h.2]
    · next m a b e => cases e; rw [arrs n ih _ _ h]
    · next m a b e => cases e; rw [arrs n ih _ _ h]
    · next m f a b g c d e =>
      cases e
      rw [Bool.and_eq_true, Bool.and_eq_true] at h
      rw [eq_of_beq h.1.1, arrs n ih _ _ h.1.2, arrs n ih _ _ h.2]
    · cases h

end Go.Ab
