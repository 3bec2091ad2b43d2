import Derived.Test.YteoncjaiigfpaaaGreatDoorAb3
set_option linter.all false
namespace Go.Ab
section heavy
variable {P : Program}

inductive DR (ρ : Rho) : Deferred → Deferred → Prop
  | mk (fn : Fn) (cap cap' args args' : Array Value) : VRs ρ cap.toList cap'.toList → VRs ρ args.toList args'.toList → DR ρ { target := .fn fn cap, args } { target := .fn fn cap', args := args' }

inductive DRs (ρ : Rho) : List Deferred → List Deferred → Prop
  | nil : DRs ρ [] []
  | cons (d d' : Deferred) (ds ds' : List Deferred) : DR ρ d d' → DRs ρ ds ds' → DRs ρ (d :: ds) (d' :: ds')

theorem DR.mono {ρ ρ' : Rho} (hs : Sub ρ ρ') {d d' : Deferred} (h : DR ρ d d') : DR ρ' d d' := by
  cases h with | mk fn cap cap' args args' h1 h2 => exact .mk _ _ _ _ _ (h1.mono hs) (h2.mono hs)

theorem DRs.mono {ρ ρ' : Rho} (hs : Sub ρ ρ') {d d' : List Deferred} (h : DRs ρ d d') : DRs ρ' d d' := by
  induction h with
  | nil => exact .nil
  | cons d d' ds ds' h1 _ ih => exact .cons _ _ _ _ (h1.mono hs) ih

/-- How a call ends, in both. -/
inductive ER (ρ : Rho) : AEnd → Ending → Prop
  | ret (v v' : Value) : VR ρ v v' → ER ρ (.ret v) (.returned v')
  | pan (ch ch' : List PanicEntry) : CR ρ ch ch' → ER ρ (.pan ch) (.panicked ch')

/-- The evaluator's calls tell what the model's calls do. -/
def CallSound (P : Program) (callF : CallF) : Prop :=
  ∀ f args A e A', callF f args A = some (e, A') → (funOf P f).isSome ∧ ∀ ρ w args', Rel P ρ A w → VRs ρ args args'.toList →
    Calls P f args' w fun ec w' => ∃ ρ', Mv P ρ A w ρ' A' w' ∧ ER ρ' e ec

theorem run_callFunc {f : FuncId} {fn : Func} {c : Code} (h : funOf P f = some (fn, c)) (args : Array Value) (w : World) : (callFunc f args).run P w = .ok (.enter f args) w := by
  unfold funOf at h
  split at h
  · next fn0 hfn =>
    split at h
    · next c0 hc =>
      split at h
      · cases h
      · next hname =>
        have hname' : ¬ fn0.name = "runtime.NumGoroutine" := by simpa using hname
        simp [callFunc, hfn, hname', hc]
    · cases h
  · cases h

/-- What an operation comes to, by what follows. -/
structure OpOut (P : Program) (ρ : Rho) (A : H) (w : World) (A' : H) (o : Oper) (a : Go.Act) (next : Go.Act → World → Prop) (Q : Exit → Go.Act → World → Prop) (r : OR) : Prop where
  val : ∀ v, r = .val v → ∀ ρ' v' w', Mv P ρ A w ρ' A' w' → VR ρ' v v' → next (a.put o.dst v') w'
  defer : ∀ d, r = .defer d → ∀ ρ' d' w', Mv P ρ A w ρ' A' w' → DR ρ' d d' → next (({ a with defers := d' :: a.defers } : Go.Act).put o.dst undef) w'
  pan : ∀ ch, r = .pan ch → ∀ ρ' ch' w', Mv P ρ A w ρ' A' w' → CR ρ' ch ch' → Q (.panic ch') a w'

theorem wp_value {ρ : Rho} {A : H} {w : World} {A' : H} {o : Oper} {a : Go.Act} {next Q} {v : Value} (h : ValMv P ρ A w A' (execOp a.eval o) v) (ho : OpOut P ρ A w A' o a next Q (.val v)) : o.wp P a w next Q := by
  obtain ⟨ρ', v', w', h1, h2, h3⟩ := h
  unfold Oper.wp
  rw [h1]
  exact ho.val v rfl ρ' v' w' h2 h3

theorem wp_skip' {ρ : Rho} {A : H} {w : World} {A' : H} {o : Oper} {a : Go.Act} {next Q} (h : SkipMv P ρ A w A' (execOp a.eval o)) (ho : OpOut P ρ A w A' o a next Q (.val undef)) : o.wp P a w next Q := by
  obtain ⟨ρ', w', h1, h2⟩ := h
  unfold Oper.wp
  rw [h1]
  exact ho.val undef rfl ρ' undef w' h2 (.tuple _ _ .nil)

theorem wp_light {ρ : Rho} {A : H} {w : World} (hr : Rel P ρ A w) {o : Oper} {a : Go.Act} {next Q} {r : OR} (h : LightOut P ρ (execOp a.eval o) w r) (ho : OpOut P ρ A w A o a next Q r) : o.wp P a w next Q := by
  cases r with
  | val v =>
    obtain ⟨v', h1, h2⟩ := h
    exact wp_value ⟨ρ, v', w, h1, Mv.refl hr, h2⟩ ho
  | pan ch =>
    obtain ⟨x', h1, h2⟩ := h
    unfold Oper.wp
    rw [h1]
    exact ho.pan ch rfl ρ _ w (Mv.refl hr) h2
  | defer d => exact h.elim

theorem args_two {ρ : Rho} {ev : Operand → Option Value} {e : Operand → Value} (he : EvR ρ ev e) {args : Array Operand} {x y : Value} {xs : List Value} (h : evs ev args.toList = some (x :: y :: xs)) :
    ∃ x' y', (args.map e)[0]? = some x' ∧ (args.map e)[1]? = some y' ∧ VR ρ x x' ∧ VR ρ y y' := by
  obtain ⟨x', xs', h1, h2, h3, h4⟩ := args_cons he h
  cases h4 with
  | cons _ y' _ ys' h5 h6 =>
    refine ⟨x', y', h2, ?_, h3, h5⟩
    rw [← Array.getElem?_toList, Array.toList_map, h1]; rfl

theorem copy_mv {ρ : Rho} {A A' : H} {w : World} (hr : Rel P ρ A w) {ev : Operand → Option Value} {e : Operand → Value} (he : EvR ρ ev e) {callF : CallF} {dst type pos after guard} {args : Array Operand} {ats : Array TypeId} {r : OR}
    (h : aOp P callF ev ⟨dst, .call ⟨.builtin .copy, args, ats⟩, type, pos, after, guard⟩ A = some (r, A')) :
    ∃ v, r = .val v ∧ ValMv P ρ A w A' (execOp e ⟨dst, .call ⟨.builtin .copy, args, ats⟩, type, pos, after, guard⟩) v := by
  simp only [aOp] at h
  obtain ⟨cs, hcs⟩ := exec_builtin (P := P) (e := e) (dst := dst) (type := type) (pos := pos) (after := after) (guard := guard) (b := .copy) (args := args) (at_ := ats)
  split at h
  · next t base dLen dCap src rest ht hx =>
    obtain ⟨d', s', h1, h2, h3, h4⟩ := args_two he hx
    split at h
    · next el sLen hu hsl =>
      split at h
      · next size hsz =>
        split at h
        · next cells hc =>
          obtain ⟨cells', hc1, hc2⟩ := hr.first hc h4
          have hlen := lenOf_run hsl h4 w (P := P)
          -- the model's copy
          have hrun : ∀ base', d' = .slice base' dLen dCap ∨ (∃ c, d' = .slice base' dLen c) → (Builtin.copy_ ats type (args.map e)).run P w = (do
              if let some a := base' then storeCells a cells'.toList
              pure (goInt (Nat.min sLen dLen)) : Sem Value).run P w := by
            intro base' hd
            obtain ⟨c, rfl⟩ : ∃ c, d' = .slice base' dLen c := by rcases hd with rfl | ⟨c, rfl⟩ <;> exact ⟨_, rfl⟩
            unfold Builtin.copy_
            simp only [ht, h1, h2, Sem.run_bind, run_underlying hu, Result.andThen_ok, hlen, run_sz hsz, hc1 w rfl]
            cases base' <;> rfl
          have hfin : ∀ {v w' ρ'}, (Builtin.copy_ ats type (args.map e)).run P w = .ok v w' → Mv P ρ A w ρ' A' w' → v = goInt (Nat.min sLen dLen) → r = .val (goInt (Nat.min sLen dLen)) →
              ∃ v, r = .val v ∧ ValMv P ρ A w A' (execOp e ⟨dst, .call ⟨.builtin .copy, args, ats⟩, type, pos, after, guard⟩) v := by
            intro v w' ρ' hv hm hveq hreq
            subst hveq
            refine ⟨_, hreq, ρ', goInt (Nat.min sLen dLen), w', ?_, hm, .int _ _⟩
            rw [hcs]
            simp [builtin, hv]
          have hempty : cells = [] → cells'.toList = [] := by intro e; subst e; exact List.length_eq_zero_iff.1 hc2.length.symm
          have hslice : ∃ base' c, d' = .slice base' dLen c := by
            cases h3 <;> exact ⟨_, _, rfl⟩
          split at h
          · next b off =>
            split at h
            · next hem =>
              have hem' : cells = [] := by simpa using hem
              cases h
              obtain ⟨base', c, hd⟩ := hslice
              refine hfin (w' := w) (ρ' := ρ) (v := goInt (Nat.min sLen dLen)) ?_ (Mv.refl hr) rfl rfl
              rw [hrun base' (.inr ⟨c, hd⟩), hempty hem']
              cases base' <;> simp [storeCells]
            · next hem =>
              cases hw : A.write b off cells with
              | none => simp [hw] at h
              | some A1 =>
                simp only [hw, Option.map_some, Option.some.injEq, Prod.mk.injEq] at h
                obtain ⟨rfl, rfl⟩ := h
                have hpos : dLen ≠ 0 := by
                  intro e0
                  have := first_length hc
                  rw [e0] at this
                  simp at this
                  exact hem (by simp [this])
                cases h3 with
                | sliceEmpty => exact absurd rfl hpos
                | sliceTopEmpty => exact absurd rfl hpos
                | slice _ _ _ _ L g1 g2 =>
                  obtain ⟨w', g3, g4⟩ := hr.write hw hc2 g2
                  refine hfin (w' := w') (v := goInt (Nat.min sLen dLen)) ?_ g4 rfl rfl
                  rw [hrun _ (.inl rfl)]
                  simp [g3]
                | sliceTop _ _ _ c L g1 g2 g3 =>
                  obtain ⟨w', g4, g5⟩ := hr.write hw hc2 g1
                  refine hfin (w' := w') (v := goInt (Nat.min sLen dLen)) ?_ g5 rfl rfl
                  rw [hrun _ (.inr ⟨c, rfl⟩)]
                  simp [g4]
          · split at h
            · next hem =>
              have hem' : cells = [] := by simpa using hem
              cases h
              obtain ⟨base', c, hd⟩ := hslice
              refine hfin (w' := w) (ρ' := ρ) (v := goInt (Nat.min sLen dLen)) ?_ (Mv.refl hr) rfl rfl
              rw [hrun base' (.inr ⟨c, hd⟩), hempty hem']
              cases base' <;> simp [storeCells]
            · cases h
          · cases h
        · cases h
      · cases h
    · cases h
  · cases h

theorem append_op {ρ : Rho} {A A' : H} {w : World} (hr : Rel P ρ A w) {ev : Operand → Option Value} {e : Operand → Value} (he : EvR ρ ev e) {callF : CallF} {dst type pos after guard} {args : Array Operand} {ats : Array TypeId} {r : OR}
    (h : aOp P callF ev ⟨dst, .call ⟨.builtin .append, args, ats⟩, type, pos, after, guard⟩ A = some (r, A')) :
    ∃ v, r = .val v ∧ ValMv P ρ A w A' (execOp e ⟨dst, .call ⟨.builtin .append, args, ats⟩, type, pos, after, guard⟩) v := by
  simp only [aOp] at h
  obtain ⟨cs, hcs⟩ := exec_builtin (P := P) (e := e) (dst := dst) (type := type) (pos := pos) (after := after) (guard := guard) (b := .append) (args := args) (at_ := ats)
  split at h
  · next t s x rest ht hx =>
    obtain ⟨s', x', h1, h2, h3, h4⟩ := args_two he hx
    split at h
    · next el hu =>
      split at h
      · next i hi =>
        split at h
        · next hz =>
          split at h
          · next z hzo =>
            split at h
            · next hzs =>
              cases ha : aAppend A i.size i.bytes s x with
              | none => simp [ha] at h
              | some p =>
                obtain ⟨v, A1⟩ := p
                simp only [ha, Option.map_some, Option.some.injEq, Prod.mk.injEq] at h
                obtain ⟨rfl, rfl⟩ := h
                obtain ⟨ρ', v', w', g1, g2, g3⟩ := append_mv hr ha h3 h4 ht hu hi hz hzo hzs h1 h2 (type := type)
                exact ⟨v, rfl, ρ', v', w', by rw [hcs]; simp [builtin, g1], g2, g3⟩
            · cases h
          · cases h
        · cases h
      · cases h
    · cases h
  · cases h

end heavy
end Go.Ab

namespace Go.Ab
section heavy
variable {P : Program}

theorem pairs_light {o : Option OR} {A A' : H} {r : OR} (h : (o.map fun r => (r, A)) = some (r, A')) : o = some r ∧ A' = A := by
  cases o with
  | none => cases h
  | some x => simp only [Option.map_some, Option.some.injEq, Prod.mk.injEq] at h; exact ⟨by rw [h.1], h.2.symm⟩

theorem run_call_value {e : Operand → Value} {dst type pos after guard} {f : Operand} {args : Array Operand} {ats : Array TypeId} {g : FuncId} {first cap : Array Value} {fn : Func} {c : Code} (hf : e f = .func (.func g) first cap)
    (hfn : funOf P g = some (fn, c)) (w : World) : (execOp e ⟨dst, .call ⟨.value f, args, ats⟩, type, pos, after, guard⟩).run P w = .ok (.enter g (first ++ args.map e ++ cap)) w := by
  simp only [execOp, resolve, hf, Deferred.ofValue, Sem.run_bind, Sem.run_pure, Result.andThen_ok, invoke, run_callFunc hfn]

theorem aOp_sound {callF : CallF} (hcs : CallSound P callF) {ρ : Rho} {A A' : H} {w : World} (hr : Rel P ρ A w) {ev : Operand → Option Value} {a : Go.Act} (he : EvR ρ ev a.eval) {o : Oper} {r : OR}
    (h : aOp P callF ev o A = some (r, A')) {next : Go.Act → World → Prop} {Q : Exit → Go.Act → World → Prop} (ho : OpOut P ρ A w A' o a next Q r) : o.wp P a w next Q := by
  have light : aLight P ev o = some r → A' = A → o.wp P a w next Q := by
    intro h1 h2
    subst h2
    exact wp_light hr (light_sound he h1 w) ho
  obtain ⟨dst, op, type, pos, after, guard⟩ := o
  cases op
  case load t x =>
    simp only [aOp] at h
    split at h
    · next p hx =>
      cases hl : aLoad P A t p with
      | none => simp [hl] at h
      | some v =>
        simp only [hl, Option.map_some, Option.some.injEq, Prod.mk.injEq] at h
        obtain ⟨rfl, rfl⟩ := h
        obtain ⟨v', h1, h2⟩ := load_sound hr hl (he _ _ hx)
        exact wp_value ⟨ρ, v', w, by simp [execOp, h1], Mv.refl hr, h2⟩ ho
    · cases h
  case store t x y =>
    obtain ⟨rfl, h1⟩ := store_mv hr he h
    exact wp_skip' h1 ho
  case alloc el =>
    simp only [aOp] at h
    split at h
    · next cs esz l hm => cases h; exact wp_value (make_mv hr he hm) ho
    · cases h
  case box el x =>
    simp only [aOp] at h
    split at h
    · next cs esz l hm => cases h; exact wp_value (make_mv hr he hm) ho
    · cases h
  case buildSlice t n ps =>
    simp only [aOp] at h
    split at h
    · next cs esz l hm => cases h; exact wp_value (make_mv hr he hm) ho
    · cases h
  case makeMap t res =>
    cases res with
    | none => simp only [aOp] at h; cases h; exact wp_value (makeMap_mv hr) ho
    | some x => simp [aOp, aLight] at h
  case makeSlice t l c =>
    obtain ⟨v, rfl, h1⟩ := makeSlice_mv hr he h
    exact wp_value h1 ho
  case lookup t x k ok =>
    obtain ⟨rfl, h1⟩ := lookup_sound hr he h
    exact wp_light hr h1 ho
  case mapUpdate t m k x =>
    simp only [aOp] at h
    split at h
    · next kt et r' key v hu hm hk hv =>
      have h2 := mapUpdate_mv (A' := A') hr (t := t) (he _ _ hm) (he _ _ hk) (he _ _ hv) (by
        rw [hu]
        simp only
        split at h
        · next kd es clock hkd hb =>
          rw [hkd, hb]
          simp only
          split at h
          · next hc =>
            rw [if_pos hc]
            split at h <;> first | (next hf => rw [hf]; cases h; rfl) | cases h
          · cases h
        · cases h)
      have hr' : r = .val undef := by
        split at h
        · split at h
          · split at h <;> first | (cases h; rfl) | cases h
          · cases h
        · cases h
      subst hr'
      obtain ⟨w', h3, h4⟩ := h2
      exact wp_skip' ⟨ρ, w', by simp [execOp, h3], h4⟩ ho
    · cases h
  case insert t m k x =>
    simp only [aOp] at h
    split at h
    · next kt et r' key v hu hm hk hv =>
      have h2 := mapUpdate_mv (A' := A') hr (t := t) (he _ _ hm) (he _ _ hk) (he _ _ hv) (by
        rw [hu]
        simp only
        split at h
        · next kd es clock hkd hb =>
          rw [hkd, hb]
          simp only
          split at h
          · next hc =>
            rw [if_pos hc]
            split at h <;> first | (next hf => rw [hf]; cases h; rfl) | cases h
          · cases h
        · cases h)
      have hr' : r = .val undef := by
        split at h
        · split at h
          · split at h <;> first | (cases h; rfl) | cases h
          · cases h
        · cases h
      subst hr'
      obtain ⟨w', h3, h4⟩ := h2
      exact wp_skip' ⟨ρ, w', by simp [execOp, h3], h4⟩ ho
    · cases h
  case call c =>
    obtain ⟨callee, args, ats⟩ := c
    cases callee with
    | invoke x m => simp [aOp, aLight] at h
    | value f =>
      simp only [aOp] at h
      split at h
      · next g first cap vs hf hargs =>
        have hfv := he _ _ hf
        generalize hef : a.eval f = vf at hfv
        cases hfv with
        | func _ _ first' _ cap' g1 g2 =>
        split at h
        · next v A1 hcall =>
          cases h
          obtain ⟨hsome, hcalls⟩ := hcs _ _ _ _ _ hcall
          obtain ⟨⟨fn, c⟩, hfn⟩ := Option.isSome_iff_exists.1 hsome
          have hvs : VRs ρ (first.toList ++ vs ++ cap.toList) (first' ++ args.map a.eval ++ cap').toList := by
            rw [Array.toList_append, Array.toList_append]
            exact (g1.append (evs_arr he hargs)).append g2
          unfold Oper.wp
          rw [run_call_value hef hfn w]
          refine (hcalls ρ w _ hr hvs).mono fun ec w' hpost => ?_
          obtain ⟨ρ', hmv, her⟩ := hpost
          cases her with
          | ret _ v' hv => exact ho.val v rfl ρ' v' w' hmv hv
        · next ch A1 hcall =>
          cases h
          obtain ⟨hsome, hcalls⟩ := hcs _ _ _ _ _ hcall
          obtain ⟨⟨fn, c⟩, hfn⟩ := Option.isSome_iff_exists.1 hsome
          have hvs : VRs ρ (first.toList ++ vs ++ cap.toList) (first' ++ args.map a.eval ++ cap').toList := by
            rw [Array.toList_append, Array.toList_append]
            exact (g1.append (evs_arr he hargs)).append g2
          unfold Oper.wp
          rw [run_call_value hef hfn w]
          refine (hcalls ρ w _ hr hvs).mono fun ec w' hpost => ?_
          obtain ⟨ρ', hmv, her⟩ := hpost
          cases her with
          | pan _ ch' hv => exact ho.pan ch rfl ρ' ch' w' hmv hv
        · cases h
      · next vs hf hargs =>
        cases h
        have hfv := he _ _ hf
        generalize hef : a.eval f = vf at hfv
        cases hfv
        refine wp_light hr (r := nilDeref P) ⟨_, ?_, CR.one (.iface _ _ _ (.string _))⟩ ho
        simp only [execOp, resolve, hef, Deferred.ofValue, Sem.run_bind, Sem.run_pure, Result.andThen_ok, invoke]
        exact run_nilDeref w
      · cases h
    | builtin b =>
      cases b
      case append => obtain ⟨v, rfl, h1⟩ := append_op hr he h; exact wp_value h1 ho
      case copy => obtain ⟨v, rfl, h1⟩ := copy_mv hr he h; exact wp_value h1 ho
      case len =>
        simp only [aOp] at h
        split at h
        · next t r' rest ht hx =>
          split at h
          · next k e es cl hu hb =>
            cases h
            obtain ⟨x', xs', h1, h2, h3, h4⟩ := args_cons he hx
            cases h3 with
            | map _ L hL =>
            obtain ⟨L', hL', es', h5, h6⟩ := hr.blk _ _ hb
            rw [hL] at hL'
            cases hL'
            have hsize : es'.size = es.length := by
              have : ∀ {l l' : List MapEntry}, MERs ρ l l' → l.length = l'.length := by
                intro l l' hm
                induction hm with
                | nil => rfl
                | cons _ _ _ _ _ _ ih => simp [ih]
              simpa using (this h6).symm
            obtain ⟨cs, hcs'⟩ := exec_builtin (P := P) (e := a.eval) (dst := dst) (type := type) (pos := pos) (after := after) (guard := guard) (b := .len) (args := args) (at_ := ats)
            refine wp_value (v := goInt es.length) ⟨ρ, goInt es.length, w, ?_, Mv.refl hr, by unfold goInt; exact .int _ _⟩ ho
            have hget : (getObj L.blk).run P w = .ok (.map es' cl) w := by simp [getObj, Sem.run, h5]
            rw [hcs']
            simp [builtin, Builtin.len_, ht, h2, run_underlying hu, hget, hsize]
          · cases h
        · obtain ⟨h1, h2⟩ := pairs_light h
          exact light h1 h2
      all_goals (simp only [aOp] at h; obtain ⟨h1, h2⟩ := pairs_light h; exact light h1 h2)
  case defer c =>
    obtain ⟨callee, args, ats⟩ := c
    simp only [aOp] at h
    split at h
    · next f =>
      split at h
      · next g first cap vs hf hargs =>
        cases h
        have hfv := he _ _ hf
        generalize hef : a.eval f = vf at hfv
        cases hfv with
        | func _ _ first' _ cap' g1 g2 =>
        unfold Oper.wp
        have hrun : (execOp a.eval ⟨dst, .defer ⟨.value f, args, ats⟩, type, pos, after, guard⟩).run P w = .ok (.defer { target := .fn (.func g) cap', args := first' ++ args.map a.eval }) w := by
          simp only [execOp, resolve, hef, Deferred.ofValue, Sem.run_bind, Sem.run_pure, Result.andThen_ok]
        rw [hrun]
        refine ho.defer _ rfl ρ _ w (Mv.refl hr) (.mk _ _ _ _ _ g2 ?_)
        rw [Array.toList_append, Array.toList_append]
        exact g1.append (evs_arr he hargs)
      · cases h
    · cases h
  case panic x =>
    simp only [aOp] at h
    split at h
    · next t v hx =>
      cases h
      have hv := he _ _ hx
      generalize hex : a.eval x = vx at hv
      cases hv with
      | iface _ _ v' hv =>
      refine wp_light hr (r := pan1 (.iface t v)) ⟨_, ?_, CR.one (.iface _ _ _ hv)⟩ ho
      simp [execOp, hex, Instr.panic]
    · cases h
  all_goals (simp only [aOp] at h; obtain ⟨h1, h2⟩ := pairs_light h; exact light h1 h2)

end heavy
end Go.Ab

namespace Go.Ab
section region
variable {P : Program}

/-- An activation, in both. -/
structure AR (ρ : Rho) (a : Act) (aC : Go.Act) : Prop where
  size : aC.tmps.size = a.n
  tm : ∀ t v, a.tm.get t = some v → VR ρ v (aC.tmps.getD t undef)
  defers : DRs ρ a.defers aC.defers

theorem AR.mono {ρ ρ' : Rho} (hs : Sub ρ ρ') {a : Act} {aC : Go.Act} (h : AR ρ a aC) : AR ρ' a aC :=
  ⟨h.size, fun t v ht => (h.tm t v ht).mono hs, h.defers.mono hs⟩

theorem getD_set (tmps : Array Value) (d t : Nat) (v : Value) (hd : d < tmps.size) : (tmps.setIfInBounds d v).getD t undef = if t = d then v else tmps.getD t undef := by
  simp only [Array.getD_eq_getD_getElem?]
  split
  · next e => subst e; rw [Array.getElem?_setIfInBounds_self_of_lt hd]; rfl
  · next e => rw [Array.getElem?_setIfInBounds_ne (Ne.symm e)]

theorem put_some (a : Act) (d : Tmp) (v : Value) : a.put (some d) v = if d < a.n then some { a with tm := a.tm.set d v } else none := by
  obtain ⟨n, tm, ds⟩ := a
  simp only [Act.put]
  by_cases h : d < n
  · rw [if_pos h, Nat.ble_eq_true_of_le h]; rfl
  · rw [if_neg h]
    cases hb : Nat.ble (d + 1) n with
    | false => rfl
    | true => exact absurd (Nat.le_of_ble_eq_true hb) h

theorem put_none (a : Act) (v : Value) : a.put none v = some a := rfl

theorem AR.put {ρ : Rho} {a a' : Act} {aC : Go.Act} (h : AR ρ a aC) {dst : Option Tmp} {v v' : Value} (hp : a.put dst v = some a') (hv : VR ρ v v') : AR ρ a' (aC.put dst v') := by
  cases dst with
  | none => cases hp; exact h
  | some d =>
    rw [put_some] at hp
    split at hp
    · next hd =>
      cases hp
      have hd' : d < aC.tmps.size := by rw [h.size]; exact hd
      refine ⟨by simp [Go.Act.put, h.size], fun t x ht => ?_, h.defers⟩
      simp only [Go.Act.put]
      rw [getD_set _ _ _ _ hd']
      rw [T.get_set] at ht
      split
      · next e => rw [if_pos e] at ht; cases ht; exact hv
      · next e => rw [if_neg e] at ht; exact h.tm t x ht
    · cases hp

theorem ev_rel {ρ : Rho} {A : H} {w : World} (hr : Rel P ρ A w) {a : Act} {aC : Go.Act} (ha : AR ρ a aC) : EvR ρ (a.ev P) aC.eval := by
  intro x v h
  cases x with
  | tmp t => exact ha.tm t v h
  | const c =>
    simp only [Act.ev] at h
    split at h
    · next hp => cases h; exact VR.refl ρ hp
    · cases h
  | global g =>
    simp only [Act.ev] at h
    split at h
    · next hg =>
      cases h
      obtain ⟨L, h1, h2, h3⟩ := hr.glob g hg
      have := VR.ptr g 0 L h1
      rw [h2, h3] at this
      exact this
    · cases h
  | func f => simp only [Act.ev] at h; cases h; exact .func _ _ _ _ _ .nil .nil

theorem yielded_rel {ρ : Rho} {ops : Array Oper} {aC : Go.Act} {j : Nat} {t : Tmp} (hd : (ops[j]?).bind (·.dst) = some t) {v : Value} (ht : VR ρ v (aC.tmps.getD t undef)) (want : Bool) :
    (yielded ops aC.tmps j == some want) = (match v with | .bool b => b == want | _ => false) := by
  unfold yielded
  rw [hd]
  simp only [Option.bind_some]
  cases hx : aC.tmps[t]? with
  | none =>
    have : aC.tmps.getD t undef = undef := by simp [hx]
    rw [this] at ht
    cases ht
    rfl
  | some y =>
    have : aC.tmps.getD t undef = y := by simp [hx]
    rw [this] at ht
    cases ht <;> simp

theorem wanted_rel' {ρ : Rho} {ops : Array Oper} {a : Act} {aC : Go.Act} {o : Oper} {b : Bool}
    (htm : ∀ j want t v, o.guard = some (j, want) → (ops[j]?).bind (·.dst) = some t → a.tm.get t = some v → VR ρ v (aC.tmps.getD t undef)) (h : wantedA ops a o = some b) : Region.wanted o (yielded ops aC.tmps) = b := by
  unfold wantedA at h
  unfold Region.wanted
  split at h
  · next hg => rw [hg]; cases h; rfl
  · next j want hg =>
    rw [hg]
    simp only
    split at h
    · next t hd =>
      split at h
      · next x ht => cases h; rw [yielded_rel hd (htm _ _ _ _ hg hd ht)]
      · next x hno ht =>
        cases h
        rw [yielded_rel hd (htm _ _ _ _ hg hd ht)]
        cases x <;> first | rfl | exact absurd rfl (hno _)
      · cases h
    · cases h

theorem wanted_rel {ρ : Rho} {ops : Array Oper} {a : Act} {aC : Go.Act} (ha : AR ρ a aC) {o : Oper} {b : Bool} (h : wantedA ops a o = some b) : Region.wanted o (yielded ops aC.tmps) = b :=
  wanted_rel' (fun _ _ _ _ _ _ ht => ha.tm _ _ ht) h

/-- How code is left, in both. -/
inductive XR (ρ : Rho) : AExit → Exit → Prop
  | normal : XR ρ .normal .normal
  | exit (i : Nat) : XR ρ (.exit i) (.exit i)
  | goto (l : Nat) : XR ρ (.goto l) (.goto l)
  | ret : XR ρ .ret .ret
  | panic (ch ch' : List PanicEntry) : CR ρ ch ch' → XR ρ (.panic ch) (.panic ch')

/-- All that must hold where code is left. -/
def Post (P : Program) (ρ : Rho) (A : H) (w : World) (e : AExit) (a' : Act) (A' : H) (Q : Exit → Go.Act → World → Prop) : Prop :=
  ∀ ρ' ec aC' w', Mv P ρ A w ρ' A' w' → AR ρ' a' aC' → XR ρ' e ec → Q ec aC' w'

theorem Post.later {ρ ρ1 : Rho} {A A1 : H} {w w1 : World} {e : AExit} {a' : Act} {A' : H} {Q : Exit → Go.Act → World → Prop} (h : Post P ρ A w e a' A' Q) (hm : Mv P ρ A w ρ1 A1 w1) : Post P ρ1 A1 w1 e a' A' Q :=
  fun ρ' ec aC' w' h1 h2 h3 => h ρ' ec aC' w' (hm.trans h1) h2 h3

theorem seq_sound {callF : CallF} (hcs : CallSound P callF) (ops : Array Oper) : ∀ (rest : List Oper) (k : Nat), ops.toList.drop k = rest → ∀ {ρ : Rho} {A : H} {w : World} {a : Act} {aC : Go.Act} {e : AExit} {a' : Act} {A' : H}
    {Q : Exit → Go.Act → World → Prop}, aSeq P callF ops rest a A = some (e, a', A') → Rel P ρ A w → AR ρ a aC → Post P ρ A w e a' A' Q → wpOps P ops Q (List.range' k rest.length) aC w := by
  intro rest
  induction rest with
  | nil =>
    intro k hk ρ A w a aC e a' A' Q h hr ha hp
    simp only [aSeq] at h
    cases h
    exact hp ρ .normal aC w (Mv.refl hr) ha .normal
  | cons o rest ih =>
    intro k hk ρ A w a aC e a' A' Q h hr ha hp
    have hlt : k < ops.toList.length := by
      rcases Nat.lt_or_ge k ops.toList.length with h1 | h1
      · exact h1
      · rw [List.drop_eq_nil_of_le h1] at hk; cases hk
    have hget : ops[k]? = some o := by
      rw [← Array.getElem?_toList, List.getElem?_eq_getElem hlt]
      rw [List.drop_eq_getElem_cons hlt] at hk
      exact congrArg some (List.cons.inj hk).1
    have hrest : ops.toList.drop (k + 1) = rest := by
      rw [List.drop_eq_getElem_cons hlt] at hk
      exact (List.cons.inj hk).2
    simp only [List.length_cons, List.range'_succ, wpOps, hget]
    simp only [aSeq] at h
    split at h
    · next hw =>
      rw [wanted_rel ha hw, if_pos rfl]
      refine .inl ?_
      split at h
      · next v A1 hop =>
        split at h
        · next a1 hput =>
          refine aOp_sound hcs hr (ev_rel hr ha) hop ⟨fun v0 hv0 ρ' v' w' hm hv => ?_, (fun d hd => by cases hd), (fun ch hch => by cases hch)⟩
          cases hv0
          exact ih (k + 1) hrest h hm.rel ((ha.mono (hm.sub hr)).put hput hv) (hp.later hm)
        · cases h
      · next d A1 hop =>
        split at h
        · next a1 hput =>
          refine aOp_sound hcs hr (ev_rel hr ha) hop ⟨(fun v0 hv0 => by cases hv0), fun d0 hd0 ρ' d' w' hm hd => ?_, (fun ch hch => by cases hch)⟩
          cases hd0
          have ha1 : AR ρ' { a with defers := d :: a.defers } { aC with defers := d' :: aC.defers } :=
            ⟨ha.size, fun t v ht => (ha.tm t v ht).mono (hm.sub hr), .cons _ _ _ _ hd (ha.defers.mono (hm.sub hr))⟩
          exact ih (k + 1) hrest h hm.rel (ha1.put hput (.tuple _ _ .nil)) (hp.later hm)
        · cases h
      · next ch A1 hop =>
        cases h
        refine aOp_sound hcs hr (ev_rel hr ha) hop ⟨(fun v0 hv0 => by cases hv0), (fun d hd => by cases hd), fun ch0 hch ρ' ch' w' hm hc => ?_⟩
        cases hch
        exact hp ρ' _ aC w' hm (ha.mono (hm.sub hr)) (.panic _ _ hc)
      · cases h
    · next hw =>
      rw [wanted_rel ha hw, if_neg (by decide)]
      split at h
      · next a1 hput => exact ih (k + 1) hrest h hr (ha.put hput (.tuple _ _ .nil)) hp
      · cases h
    · cases h

theorem region_seq {callF : CallF} (hcs : CallSound P callF) {ops : Array Oper} {id : Nat} {ρ : Rho} {A : H} {w : World} {a : Act} {aC : Go.Act} {e : AExit} {a' : Act} {A' : H}
    {Q : Exit → Go.Act → World → Prop} (h : aSeq P callF ops ops.toList a A = some (e, a', A')) (hr : Rel P ρ A w) (ha : AR ρ a aC) (hp : Post P ρ A w e a' A' Q) : (Code.region id ops false).wp P Q aC w := by
  refine wp_region ?_
  have := seq_sound hcs ops ops.toList 0 rfl h hr ha hp
  rw [Array.length_toList] at this
  rw [List.range_eq_range']
  exact this

end region
end Go.Ab
