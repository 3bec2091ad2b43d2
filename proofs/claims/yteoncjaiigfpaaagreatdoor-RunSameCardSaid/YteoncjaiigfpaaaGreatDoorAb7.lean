import Derived.Test.YteoncjaiigfpaaaGreatDoorAb6
set_option linter.all false
namespace Go.Ab
section code
variable {P : Program}

theorem wp_cond_ev {ρ : Rho} {A : H} {w : World} (hr : Rel P ρ A w) {a : Act} {aC : Go.Act} (ha : AR ρ a aC) {x : Operand} {b : Bool} (h : a.ev P x = some (.bool b)) : aC.eval x = .bool b := by
  have := ev_rel hr ha x _ h
  generalize aC.eval x = y at this
  cases this
  rfl

theorem code_sound' (hm : P.follows .mixedOrders = true) {eqv : Value → Value → Bool} (heqv : ∀ x y, eqv x y = true → x = y) {callF : CallF} (hcs : CallSound P callF) : ∀ (n : Nat), (∀ (c : Code) {ρ : Rho} {A : H} {w : World} {a : Act} {aC : Go.Act} {e : AExit} {a' : Act} {A' : H}
    {Q : Exit → Go.Act → World → Prop}, aCode P eqv callF n c a A = some (e, a', A') → Rel P ρ A w → AR ρ a aC → Post P ρ A w e a' A' Q → c.wp P Q aC w) ∧
    (∀ (b : Code) {ρ : Rho} {A : H} {w : World} {a : Act} {aC : Go.Act} {e : AExit} {a' : Act} {A' : H}
    {Q : Exit → Go.Act → World → Prop}, aCode P eqv callF n (.loop b) a A = some (e, a', A') → Rel P ρ A w → AR ρ a aC → Post P ρ A w e a' A' Q → Code.rounds P b Q n aC w) := by
  intro n
  induction n with
  | zero => exact ⟨fun c ρ A w a aC e a' A' Q h => by simp [aCode] at h, fun c ρ A w a aC e a' A' Q h => by simp [aCode] at h⟩
  | succ n ih0 =>
    obtain ⟨ih, ihl⟩ := ih0
    have rounds : ∀ (b : Code) {ρ : Rho} {A : H} {w : World} {a : Act} {aC : Go.Act} {e : AExit} {a' : Act} {A' : H}
        {Q : Exit → Go.Act → World → Prop}, aCode P eqv callF (n + 1) (.loop b) a A = some (e, a', A') → Rel P ρ A w → AR ρ a aC → Post P ρ A w e a' A' Q → Code.rounds P b Q (n + 1) aC w := by
      intro b ρ A w a aC e a' A' Q h hr ha hp
      rw [rounds_succ]
      simp only [aCode] at h
      split at h
      · next a1 A1 hb =>
        refine ih b hb hr ha fun ρ1 ec aC1 w1 h1 h2 h3 => ?_
        cases h3
        exact ihl b h h1.rel h2 (hp.later h1)
      · next r hno =>
        refine ih b h hr ha fun ρ1 ec aC1 w1 h1 h2 h3 => ?_
        have := hp ρ1 ec aC1 w1 h1 h2 h3
        cases h3 with
        | normal => exact absurd h (hno _ _)
        | _ => exact this
    refine ⟨?_, rounds⟩
    intro c ρ A w a aC e a' A' Q h hr ha hp
    cases c with
    | skip => simp only [aCode] at h; cases h; exact wp_skip (hp ρ .normal aC w (Mv.refl hr) ha .normal)
    | label l => simp only [aCode] at h; cases h; exact wp_label (hp ρ .normal aC w (Mv.refl hr) ha .normal)
    | region id ops draw =>
      simp only [aCode, aRegion] at h
      split at h
      · next hd => subst hd; exact region_draw hm heqv hcs h hr ha hp
      · next hd =>
        have : draw = false := by simpa using hd
        subst this
        exact region_seq hcs h hr ha hp
    | seq x y =>
      simp only [aCode] at h
      refine wp_seq ?_
      split at h
      · next a1 A1 hx =>
        refine ih x hx hr ha fun ρ1 ec aC1 w1 h1 h2 h3 => ?_
        cases h3
        exact ih y h h1.rel h2 (hp.later h1)
      · next r hno =>
        refine ih x h hr ha fun ρ1 ec aC1 w1 h1 h2 h3 => ?_
        have := hp ρ1 ec aC1 w1 h1 h2 h3
        cases h3 with
        | normal => exact absurd h (hno _ _)
        | _ => exact this
    | cond x t e' =>
      simp only [aCode] at h
      split at h
      · next hx => exact wp_cond_true (wp_cond_ev hr ha hx) (ih t h hr ha hp)
      · next hx => exact wp_cond_false (wp_cond_ev hr ha hx) (ih e' h hr ha hp)
      · cases h
    | block id b =>
      simp only [aCode] at h
      refine wp_block ?_
      split at h
      · next i a1 A1 hb =>
        refine ih b hb hr ha fun ρ1 ec aC1 w1 h1 h2 h3 => ?_
        cases h3
        split at h
        · next hi =>
          cases h
          simp only [Exit.inBlock, hi, if_true]
          exact hp ρ1 _ aC1 w1 h1 h2 .normal
        · next hi =>
          cases h
          simp only [Exit.inBlock, hi, if_false]
          exact hp ρ1 _ aC1 w1 h1 h2 (.exit i)
      · next r hno =>
        refine ih b h hr ha fun ρ1 ec aC1 w1 h1 h2 h3 => ?_
        have := hp ρ1 ec aC1 w1 h1 h2 h3
        cases h3 with
        | exit i => exact absurd h (hno _ _ _)
        | _ => exact this
    | loop b => exact wp_loop_rounds (n + 1) (rounds b h hr ha hp)
    | exit id => simp only [aCode] at h; cases h; exact wp_exit (hp ρ _ aC w (Mv.refl hr) ha (.exit id))
    | scope b =>
      simp only [aCode] at h
      refine wp_scope_straight ?_
      split at h
      · cases h
      · next r hno =>
        refine ih b h hr ha fun ρ1 ec aC1 w1 h1 h2 h3 => ?_
        have := hp ρ1 ec aC1 w1 h1 h2 h3
        cases h3 with
        | goto l => exact absurd h (hno _ _ _)
        | _ => exact this
    | ret => simp only [aCode] at h; cases h; exact wp_ret (hp ρ _ aC w (Mv.refl hr) ha .ret)
    | _ => simp [aCode] at h

theorem code_sound (hm : P.follows .mixedOrders = true) {eqv : Value → Value → Bool} (heqv : ∀ x y, eqv x y = true → x = y) {callF : CallF} (hcs : CallSound P callF) {n : Nat} {c : Code} {ρ : Rho} {A : H} {w : World} {a : Act} {aC : Go.Act} {e : AExit} {a' : Act} {A' : H}
    {Q : Exit → Go.Act → World → Prop} (h : aCode P eqv callF n c a A = some (e, a', A')) (hr : Rel P ρ A w) (ha : AR ρ a aC) (hp : Post P ρ A w e a' A' Q) : c.wp P Q aC w :=
  (code_sound' hm heqv hcs n).1 c h hr ha hp

/-! Where deferred functions run. -/

inductive UR (ρ : Rho) : FrameMode → FrameMode → Prop
  | run : UR ρ .run .run
  | returning : UR ρ .returning .returning
  | panicking (ch ch' : List PanicEntry) : CR ρ ch ch' → UR ρ (.panicking ch) (.panicking ch')

theorem UR.mono {ρ ρ' : Rho} (hs : Sub ρ ρ') {u u' : FrameMode} (h : UR ρ u u') : UR ρ' u u' := by
  cases h with
  | run => exact .run
  | returning => exact .returning
  | panicking ch ch' h => exact .panicking _ _ (h.mono hs)

theorem CR.drop {ρ : Rho} {a a' : List PanicEntry} (h : CR ρ a a') : CR ρ (a.dropWhile (!·.goexit)) (a'.dropWhile (!·.goexit)) := by
  induction h with
  | nil => exact .nil
  | cons v v' r g rest rest' h1 h2 ih =>
    cases g with
    | false => simpa [List.dropWhile] using ih
    | true => simpa [List.dropWhile] using CR.cons v v' r true rest rest' h1 h2

theorem UR.settle {ρ : Rho} {u u' : FrameMode} (h : UR ρ u u') : UR ρ (Go.settle u) (Go.settle u') := by
  cases h with
  | run => exact .run
  | returning => exact .returning
  | panicking ch ch' h =>
    cases h with
    | nil => exact .panicking _ _ .nil
    | cons v v' r g rest rest' h1 h2 =>
      cases r with
      | false => exact .panicking _ _ (.cons _ _ _ _ _ _ h1 h2)
      | true =>
        have := h2.drop
        simp only [Go.settle]
        generalize rest.dropWhile (!·.goexit) = x at *
        generalize rest'.dropWhile (!·.goexit) = y at *
        cases this with
        | nil => exact .returning
        | cons _ _ _ _ _ _ g1 g2 => exact .panicking _ _ (.cons _ _ _ _ _ _ g1 g2)

theorem UR.raised {ρ : Rho} {u u' : FrameMode} (h : UR ρ u u') {ch ch' : List PanicEntry} (hc : CR ρ ch ch') : UR ρ (Go.raised u ch) (Go.raised u' ch') := by
  cases h with
  | run => exact .panicking _ _ hc
  | returning => exact .panicking _ _ hc
  | panicking _ _ h => exact .panicking _ _ (hc.append h)

theorem recA_rel {ρ : Rho} {u uC : FrameMode} (h : UR ρ u uC) (c₀ : Frame) (cs : List Frame) :
    (∃ v' u2, recoverD ({ c₀ with mode := uC } :: cs) = some (v', { c₀ with mode := u2 } :: cs) ∧ VR ρ (recA u).1 v' ∧ UR ρ (recA u).2 u2) ∨
    (recoverD ({ c₀ with mode := uC } :: cs) = none ∧ (recA u).1 = .nilIface ∧ (recA u).2 = u) := by
  cases h with
  | run => exact .inr ⟨rfl, rfl, rfl⟩
  | returning => exact .inr ⟨rfl, rfl, rfl⟩
  | panicking ch ch' h =>
    cases h with
    | nil => exact .inr ⟨rfl, rfl, rfl⟩
    | cons v v' r g rest rest' h1 h2 =>
      cases r <;> cases g
      · exact .inl ⟨v', .panicking ({ v := v', recovered := true } :: rest'), rfl, h1, .panicking _ _ (.cons _ _ _ _ _ _ h1 h2)⟩
      · exact .inr ⟨rfl, rfl, rfl⟩
      · exact .inr ⟨rfl, rfl, rfl⟩
      · exact .inr ⟨rfl, rfl, rfl⟩

def PostS (P : Program) (ρ : Rho) (A : H) (w : World) (e : AExit) (a' : Act) (u' : FrameMode) (A' : H) (c₀ : Frame) (cs : List Frame) (Q : Exit → Go.Act → List Frame → World → Prop) : Prop :=
  ∀ ρ' ec aC' uC' w', Mv P ρ A w ρ' A' w' → AR ρ' a' aC' → XR ρ' e ec → UR ρ' u' uC' → Q ec aC' ({ c₀ with mode := uC' } :: cs) w'

theorem PostS.later {ρ ρ1 : Rho} {A A1 : H} {w w1 : World} {e : AExit} {a' : Act} {u' : FrameMode} {A' : H} {c₀ : Frame} {cs : List Frame} {Q : Exit → Go.Act → List Frame → World → Prop} (h : PostS P ρ A w e a' u' A' c₀ cs Q) (hm : Mv P ρ A w ρ1 A1 w1) : PostS P ρ1 A1 w1 e a' u' A' c₀ cs Q :=
  fun ρ' ec aC' uC' w' h1 h2 h3 h4 => h ρ' ec aC' uC' w' (hm.trans h1) h2 h3 h4

theorem seqD_sound {callF : CallF} (hcs : CallSound P callF) (ops : Array Oper) (c₀ : Frame) (cs : List Frame) : ∀ (rest : List Oper) (k : Nat), ops.toList.drop k = rest → ∀ {ρ : Rho} {A : H} {w : World} {a : Act} {aC : Go.Act} {u uC : FrameMode} {e : AExit} {a' : Act} {u' : FrameMode} {A' : H}
    {Q : Exit → Go.Act → List Frame → World → Prop}, aSeqD P callF ops rest a u A = some (e, a', u', A') → Rel P ρ A w → AR ρ a aC → UR ρ u uC → PostS P ρ A w e a' u' A' c₀ cs Q → wpOpsS P ops Q (List.range' k rest.length) aC ({ c₀ with mode := uC } :: cs) w := by
  intro rest
  induction rest with
  | nil =>
    intro k hk ρ A w a aC u uC e a' u' A' Q h hr ha hu hp
    simp only [aSeqD] at h
    cases h
    exact hp ρ .normal aC uC w (Mv.refl hr) ha .normal hu
  | cons o rest ih =>
    intro k hk ρ A w a aC u uC e a' u' A' Q h hr ha hu hp
    have hlt : k < ops.toList.length := by
      rcases Nat.lt_or_ge k ops.toList.length with h1 | h1
      · exact h1
      · rw [List.drop_eq_nil_of_le h1] at hk; cases hk
    have hget : ops[k]? = some o := by
      rw [← Array.getElem?_toList, List.getElem?_eq_getElem hlt]
      rw [List.drop_eq_getElem_cons hlt] at hk
      exact congrArg some (List.cons.inj hk).1
    have hrest : ops.toList.drop (k + 1) = rest := by
      rw [List.drop_eq_getElem_cons hlt] at hk
      exact (List.cons.inj hk).2
    simp only [List.length_cons, List.range'_succ, wpOpsS, hget]
    simp only [aSeqD] at h
    split at h
    · next hw =>
      rw [wanted_rel ha hw, if_pos rfl]
      split at h
      · next hop =>
        split at h
        · next a1 hput =>
          obtain ⟨dst, op, type, pos, after, guard⟩ := o
          obtain ⟨ats, rfl⟩ : ∃ ats, op = .call ⟨.builtin .recover, #[], ats⟩ := by
            simp only at hop
            unfold isRecover at hop
            split at hop
            · next args ats =>
              have : args.toList = [] := by simpa using hop
              have : args = #[] := by simpa using this
              subst this
              exact ⟨ats, rfl⟩
            · cases hop
          obtain ⟨cc, hcc⟩ := exec_builtin (P := P) (e := aC.eval) (dst := dst) (type := type) (pos := pos) (after := after) (guard := guard) (b := .recover) (args := #[]) (at_ := ats)
          have hrun : (execOp aC.eval ⟨dst, .call ⟨.builtin .recover, #[], ats⟩, type, pos, after, guard⟩).run P w = .ok .recover w := by
            rw [hcc]; rfl
          rw [hrun]
          simp only
          rcases recA_rel hu c₀ cs with ⟨v', u2, g1, g2, g3⟩ | ⟨g1, g2, g3⟩
          · rw [g1]
            exact ih (k + 1) hrest h hr (ha.put hput g2) g3 hp
          · rw [g1]
            rw [g2] at hput
            rw [g3] at h
            exact ih (k + 1) hrest h hr (ha.put hput .nilIface) hu hp
        · cases h
      · have fin : ∀ {Q' : Exit → Go.Act → World → Prop} {nx : Go.Act → World → Prop}, o.wp P aC w nx Q' → (match (execOp aC.eval o).run P w with
            | .ok .recover w' => match recoverD ({ c₀ with mode := uC } :: cs) with
              | some (v, cs') => wpOpsS P ops Q (List.range' (k + 1) rest.length) (aC.put o.dst v) cs' w'
              | none => wpOpsS P ops Q (List.range' (k + 1) rest.length) (aC.put o.dst .nilIface) ({ c₀ with mode := uC } :: cs) w'
            | r => o.upon P aC nx Q' r) := by
          intro Q' nx hwp
          unfold Oper.wp at hwp
          split
          · next w' hr' => rw [hr'] at hwp; exact hwp.elim
          · exact hwp
        refine fin (nx := fun a' w' => wpOpsS P ops Q (List.range' (k + 1) rest.length) a' ({ c₀ with mode := uC } :: cs) w') (Q' := fun e a' w' => Q e a' ({ c₀ with mode := uC } :: cs) w') ?_
        split at h
        · next v A1 hop =>
          split at h
          · next a1 hput =>
            refine aOp_sound hcs hr (ev_rel hr ha) hop ⟨fun v0 hv0 ρ' v' w' hm hv => ?_, (fun d hd => by cases hd), (fun ch hch => by cases hch)⟩
            cases hv0
            exact ih (k + 1) hrest h hm.rel ((ha.mono (hm.sub hr)).put hput hv) (hu.mono (hm.sub hr)) (hp.later hm)
          · cases h
        · next ch A1 hop =>
          cases h
          refine aOp_sound hcs hr (ev_rel hr ha) hop ⟨(fun v0 hv0 => by cases hv0), (fun d hd => by cases hd), fun ch0 hch ρ' ch' w' hm hc => ?_⟩
          cases hch
          exact hp ρ' _ aC uC w' hm (ha.mono (hm.sub hr)) (.panic _ _ hc) (hu.mono (hm.sub hr))
        · cases h
    · next hw =>
      rw [wanted_rel ha hw, if_neg (by decide)]
      split at h
      · next a1 hput => exact ih (k + 1) hrest h hr (ha.put hput (.tuple _ _ .nil)) hu hp
      · cases h
    · cases h

def inBlockS (id : Nat) (Q : Exit → Go.Act → List Frame → World → Prop) : Exit → Go.Act → List Frame → World → Prop
  | .exit id', a, cs, w => if id' = id then Q .normal a cs w else Q (.exit id') a cs w
  | e, a, cs, w => Q e a cs w

theorem wpS_block {Q : Exit → Go.Act → List Frame → World → Prop} {a : Go.Act} {cs : List Frame} {w : World} {id : Nat} {c : Code} (h : c.wpS P (inBlockS id Q) a cs w) : (Code.block id c).wpS P Q a cs w := by
  intro b k hb hr
  obtain ⟨e, a₁, cs₁, w₁, hq, harr⟩ := h b (.inBlock id :: k) hb hr
  cases e with
  | normal => exact ⟨.normal, a₁, cs₁, w₁, hq, .head step_block (Steps.trans harr (.one step_inBlock))⟩
  | exit id' =>
    by_cases hid : id' = id
    · simp only [inBlockS, hid, if_true] at hq
      exact ⟨.normal, a₁, cs₁, w₁, hq, .head step_block (harr k (by simp [exitTo, hid]))⟩
    · simp only [inBlockS, hid, if_false] at hq
      refine ⟨.exit id', a₁, cs₁, w₁, hq, fun k' hk => .head step_block (harr k' ?_)⟩
      have : (id == id') = false := by simp; exact fun h => hid h.symm
      simp [exitTo, this, hk]
  | goto l => exact ⟨_, a₁, cs₁, w₁, hq, fun k' hk => .head step_block (harr k' (by simp [gotoIn, hk]))⟩
  | ret => exact ⟨_, a₁, cs₁, w₁, hq, .of_steps (.one step_block) harr⟩
  | panic ch => exact ⟨_, a₁, cs₁, w₁, hq, .of_steps (.one step_block) harr⟩
  | outgrown => exact ⟨_, a₁, cs₁, w₁, hq, .of_steps (b := b) (k := k) (cs := cs₁) (e := .outgrown) (.one step_block) harr⟩

theorem codeD_sound (hm : P.follows .mixedOrders = true) {eqv : Value → Value → Bool} (heqv : ∀ x y, eqv x y = true → x = y) {callF : CallF} (hcs : CallSound P callF) (c₀ : Frame) (cs : List Frame) : ∀ (n : Nat) (c : Code) {ρ : Rho} {A : H} {w : World} {a : Act} {aC : Go.Act} {u uC : FrameMode} {e : AExit} {a' : Act} {u' : FrameMode} {A' : H}
    {Q : Exit → Go.Act → List Frame → World → Prop}, aCodeD P eqv callF n c a u A = some (e, a', u', A') → Rel P ρ A w → AR ρ a aC → UR ρ u uC → PostS P ρ A w e a' u' A' c₀ cs Q → c.wpS P Q aC ({ c₀ with mode := uC } :: cs) w := by
  intro n
  induction n with
  | zero => intro c ρ A w a aC u uC e a' u' A' Q h; simp [aCodeD] at h
  | succ n ih =>
    intro c ρ A w a aC u uC e a' u' A' Q h hr ha hu hp
    unfold aCodeD at h
    split at h
    · next id ops =>
      refine wpS_region ?_
      have := seqD_sound hcs ops c₀ cs ops.toList 0 rfl h hr ha hu hp
      rw [Array.length_toList] at this
      rw [List.range_eq_range']
      exact this
    · next x y =>
      refine wpS_seq ?_
      split at h
      · next a1 u1 A1 hx =>
        refine ih x hx hr ha hu fun ρ1 ec aC1 uC1 w1 h1 h2 h3 h4 => ?_
        cases h3
        exact ih y h h1.rel h2 h4 (hp.later h1)
      · next r hno =>
        refine ih x h hr ha hu fun ρ1 ec aC1 uC1 w1 h1 h2 h3 h4 => ?_
        have := hp ρ1 ec aC1 uC1 w1 h1 h2 h3 h4
        cases h3 with
        | normal => exact absurd h (hno _ _ _)
        | _ => exact this
    · next x t e' =>
      split at h
      · next hx => exact wpS_cond (wp_cond_ev hr ha hx) (ih t h hr ha hu hp)
      · next hx => exact wpS_cond (wp_cond_ev hr ha hx) (ih e' h hr ha hu hp)
      · cases h
    · next id b =>
      refine wpS_block ?_
      split at h
      · next i a1 u1 A1 hb =>
        refine ih b hb hr ha hu fun ρ1 ec aC1 uC1 w1 h1 h2 h3 h4 => ?_
        cases h3
        split at h
        · next hi =>
          cases h
          simp only [inBlockS, hi, if_true]
          exact hp ρ1 _ aC1 uC1 w1 h1 h2 .normal h4
        · next hi =>
          cases h
          simp only [inBlockS, hi, if_false]
          exact hp ρ1 _ aC1 uC1 w1 h1 h2 (.exit i) h4
      · next r hno =>
        refine ih b h hr ha hu fun ρ1 ec aC1 uC1 w1 h1 h2 h3 h4 => ?_
        have := hp ρ1 ec aC1 uC1 w1 h1 h2 h3 h4
        cases h3 with
        | exit i => exact absurd h (hno _ _ _ _)
        | _ => exact this
    · split at h
      · next e1 a1 A1 hc =>
        cases h
        exact wpS_of_wp (code_sound hm heqv hcs hc hr ha fun ρ1 ec aC1 w1 h1 h2 h3 => hp ρ1 ec aC1 uC w1 h1 h2 h3 (hu.mono (h1.sub hr)))
      · cases h

end code
end Go.Ab

namespace Go.Ab
section calls
variable {P : Program}

theorem DRs.nil_eq {ρ : Rho} {l : List Deferred} (h : DRs ρ [] l) : l = [] := by cases h; rfl

theorem run_loadVar {t : TypeId} {x v : Value} {w : World} (h : (Instr.loadAt t x).run P w = .ok v w) : (do loadVar t (← asAddr x) : Sem Value).run P w = .ok v w := by
  unfold Instr.loadAt at h
  cases x <;> first | skip | (simp [sureAddr] at h; done)
  all_goals first
    | (next a => cases a with
        | none => simp [Instr.sureAddr] at h
        | some a => simpa [Instr.sureAddr, asAddr] using h)
    | (simp [Instr.sureAddr] at h)

theorem results_sound {ρ : Rho} {A : H} {w : World} (hr : Rel P ρ A w) {a : Act} {tmps : Array Value} (ht : ∀ t v, a.tm.get t = some v → VR ρ v (tmps.getD t undef)) : ∀ {rs : List ResultVar} {vs : List Value}, aResults P a A rs = some vs →
    ∃ vs', VRs ρ vs vs' ∧ (rs.mapM fun r => (match r with
      | .tmp t => pure (tmps.getD t undef)
      | .cell a t => do loadVar t (← asAddr (tmps.getD a undef)) : Sem Value)).run P w = .ok vs' w := by
  intro rs
  induction rs with
  | nil => intro vs h; simp only [aResults] at h; cases h; exact ⟨[], .nil, rfl⟩
  | cons r rs ih =>
    intro vs h
    cases r with
    | tmp t =>
      simp only [aResults] at h
      split at h
      · next v vs0 h1 h2 =>
        cases h
        obtain ⟨vs', g1, g2⟩ := ih h2
        exact ⟨_, .cons _ _ _ _ (ht _ _ h1) g1, by simp only [List.mapM_cons, Sem.run_bind, Sem.run_pure, Result.andThen_ok, g2]⟩
      · cases h
    | cell x t =>
      simp only [aResults] at h
      split at h
      · next p h0 =>
        split at h
        · next v vs0 h1 h2 =>
          cases h
          obtain ⟨vs', g1, g2⟩ := ih h2
          obtain ⟨v', g3, g4⟩ := load_sound hr h1 (ht _ _ h0)
          exact ⟨_, .cons _ _ _ _ g4 g1, by rw [List.mapM_cons, Sem.run_bind, run_loadVar g3]; simp only [Result.andThen_ok, Sem.run_bind, g2, Sem.run_pure]⟩
        · cases h
      · cases h

theorem tupled_rel {ρ : Rho} {vs vs' : List Value} (h : VRs ρ vs vs') : VR ρ (tupled vs) (if hh : vs'.toArray.size = 1 then vs'.toArray[0] else .tuple vs'.toArray) := by
  cases h with
  | nil => exact .tuple _ _ .nil
  | cons v v' vs vs' h1 h2 =>
    cases h2 with
    | nil => exact h1
    | cons u u' us us' h3 h4 =>
      simp only [tupled, List.size_toArray, List.length_cons]
      rw [dif_neg (by omega)]
      exact .tuple _ _ (.cons _ _ _ _ h1 (.cons _ _ _ _ h3 h4))

theorem run_results {ρ : Rho} {A : H} {w : World} (hr : Rel P ρ A w) {a : Act} {tmps : Array Value} (ht : ∀ t v, a.tm.get t = some v → VR ρ v (tmps.getD t undef)) {fn : Func} {vs : List Value} (h : aResults P a A fn.results.toList = some vs) :
    ∃ v', (results fn tmps).run P w = .ok v' w ∧ VR ρ (tupled vs) v' := by
  obtain ⟨vs', h1, h2⟩ := results_sound hr ht h
  refine ⟨_, ?_, tupled_rel h1⟩
  unfold results
  rw [Array.mapM_eq_mapM_toList, Sem.run_bind, map_eq_pure_bind, Sem.run_bind]
  erw [h2]
  rfl

def CallDSound (P : Program) (callD : CallD) : Prop :=
  ∀ g args u A e u' A', callD g args u A = some (e, u', A') → u ≠ .run ∧ (funOf P g).isSome ∧ ∀ ρ w args' uC, Rel P ρ A w → VRs ρ args args'.toList → UR ρ u uC →
    CallsD P g args' uC w fun ec uC' w' => ∃ ρ', Mv P ρ A w ρ' A' w' ∧ ER ρ' e ec ∧ UR ρ' u' uC'

theorem leave_sound {callD : CallD} (hcd : CallDSound P callD) {fn : Func} {a : Act} {e : AEnd} {A0 A' : H} {ρ0 : Rho} {w0 : World} {tmps : Array Value} : ∀ {ds : List Deferred} {u : FrameMode} {A : H} {ds' : List Deferred} {uC : FrameMode} {ρ : Rho} {w : World},
    aLeave P callD fn a ds u A = some (e, A') → Mv P ρ0 A0 w0 ρ A w → DRs ρ ds ds' → UR ρ u uC → (∀ t v, a.tm.get t = some v → VR ρ v (tmps.getD t undef)) →
    Leaves P fn tmps (fun ec w' => ∃ ρ', Mv P ρ0 A0 w0 ρ' A' w' ∧ ER ρ' e ec) ds' uC w := by
  intro ds
  induction ds with
  | nil =>
    intro u A ds' uC ρ w h hmv hd hu ht
    cases hd
    cases hu with
    | run => simp [aLeave] at h
    | returning =>
      simp only [aLeave] at h
      cases hres : aResults P a A fn.results.toList with
      | none => rw [hres] at h; cases h
      | some vs =>
        rw [hres] at h
        cases h
        obtain ⟨v', h1, h2⟩ := run_results hmv.rel ht hres
        exact ⟨v', h1, ρ, hmv, .ret _ _ h2⟩
    | panicking ch ch' hc =>
      simp only [aLeave] at h
      cases h
      exact ⟨ρ, hmv, .pan _ _ hc⟩
  | cons d ds ih =>
    intro u A ds' uC ρ w h hmv hd hu ht
    cases hd with
    | cons _ d' _ ds' h1 h2 =>
      cases h1 with
      | mk f cap cap' args args' k1 k2 =>
        simp only [aLeave] at h
        split at h
        · next g cap0 heq =>
          cases heq
          split at h
          · next v u1 A1 hcall =>
            obtain ⟨hne, hsome, hcd'⟩ := hcd _ _ _ _ _ _ _ hcall
            obtain ⟨⟨fn0, c0⟩, hfn⟩ := Option.isSome_iff_exists.1 hsome
            refine leaves_cons (f := g) (args := args' ++ cap') ?_ ?_ ?_
            · cases hu <;> simp_all
            · simp only [invoke]; exact run_callFunc hfn _ w
            · refine (hcd' ρ w (args' ++ cap') uC hmv.rel (by rw [Array.toList_append]; exact k2.append k1) hu).mono fun ec uC' w' hpost => ?_
              obtain ⟨ρ', hm, her, hu'⟩ := hpost
              cases her with
              | ret _ v' hv => exact ih h (hmv.trans hm) (h2.mono (hm.sub hmv.rel)) hu'.settle fun t v ht' => (ht t v ht').mono (hm.sub hmv.rel)
          · next ch u1 A1 hcall =>
            obtain ⟨hne, hsome, hcd'⟩ := hcd _ _ _ _ _ _ _ hcall
            obtain ⟨⟨fn0, c0⟩, hfn⟩ := Option.isSome_iff_exists.1 hsome
            refine leaves_cons (f := g) (args := args' ++ cap') ?_ ?_ ?_
            · cases hu <;> simp_all
            · simp only [invoke]; exact run_callFunc hfn _ w
            · refine (hcd' ρ w (args' ++ cap') uC hmv.rel (by rw [Array.toList_append]; exact k2.append k1) hu).mono fun ec uC' w' hpost => ?_
              obtain ⟨ρ', hm, her, hu'⟩ := hpost
              cases her with
              | pan _ ch' hc => exact ih h (hmv.trans hm) (h2.mono (hm.sub hmv.rel)) (hu'.raised hc) fun t v ht' => (ht t v ht').mono (hm.sub hmv.rel)
          · cases h
        · cases h

theorem init_rel {ρ : Rho} {args : List Value} {args' : Array Value} (h : VRs ρ args args'.toList) (fn : Func) : AR ρ (initAct fn args) { tmps := args' ++ Array.replicate (fn.ntmps - args'.size) undef, defers := [] } := by
  have hlen : args.length = args'.size := by rw [h.length]; simp
  refine ⟨by simp [initAct]; omega, fun t v ht => ?_, .nil⟩
  simp only [initAct, T.get_setFrom, Nat.zero_le, if_true, Nat.sub_zero, T.get_nil] at ht
  split at ht
  · next x hx =>
    cases ht
    obtain ⟨v', h1, h2⟩ := h.get hx
    rw [Array.getElem?_toList] at h1
    have hlt : t < args'.size := (Array.getElem?_eq_some_iff.1 h1).1
    simp only [Array.getD_eq_getD_getElem?]
    rw [Array.getElem?_append_left hlt, h1]
    exact h2
  · cases ht

theorem funOf_some {f : FuncId} {fn : Func} {c : Code} (h : funOf P f = some (fn, c)) : P.funcs[f]? = some fn ∧ fn.body = some c := by
  unfold funOf at h
  split at h
  · next fn0 hfn =>
    split at h
    · next c0 hc =>
      split at h
      · cases h
      · cases h; exact ⟨hfn, hc⟩
    · cases h
  · cases h

theorem deferred_sound (hm : P.follows .mixedOrders = true) {eqv : Value → Value → Bool} (heqv : ∀ x y, eqv x y = true → x = y) {callF : CallF} (hcs : CallSound P callF) (n : Nat) : CallDSound P (aDeferred P eqv callF n) := by
  intro g args u A e u' A' h
  unfold aDeferred at h
  split at h
  · next fn c hfn =>
    obtain ⟨hf, hb⟩ := funOf_some hfn
    split at h
    · cases h
    · next hu0 =>
      refine ⟨fun e => hu0 e, by rw [hfn]; rfl, fun ρ w args' uC hr hargs hu => ?_⟩
      refine callsD_of_wpS hf hb fun c₀ cs hc₀ => ?_
      have hc₀' : ({ c₀ with mode := uC } : Frame) = c₀ := by subst hc₀; rfl
      rw [← hc₀']
      have fin : ∀ {a1 : Act} {u1 : FrameMode} {A1 : H}, (if a1.defers.isEmpty then (aResults P a1 A1 fn.results.toList).map fun vs => (AEnd.ret (tupled vs), u1, A1) else none) = some (e, u', A') →
          ∀ ρ' aC' uC' w', Mv P ρ A w ρ' A1 w' → AR ρ' a1 aC' → UR ρ' u1 uC' → aC'.defers = [] ∧ ∃ u'', ({ { c₀ with mode := uC } with mode := uC' } :: cs : List Frame) = { { c₀ with mode := uC } with mode := u'' } :: cs ∧ ∃ v, (results fn aC'.tmps).run P w' = .ok v w' ∧
            ∃ ρ', Mv P ρ A w ρ' A' w' ∧ ER ρ' e (.returned v) ∧ UR ρ' u' u'' := by
        intro a1 u1 A1 hh ρ' aC' uC' w' h1 h2 h4
        split at hh
        · next hemp =>
          cases hres : aResults P a1 A1 fn.results.toList with
          | none => rw [hres] at hh; cases hh
          | some vs =>
            rw [hres] at hh
            cases hh
            obtain ⟨v', g1, g2⟩ := run_results h1.rel h2.tm hres
            have hd := h2.defers
            have : a1.defers = [] := by simpa using hemp
            rw [this] at hd
            refine ⟨hd.nil_eq, uC', rfl, v', g1, ρ', h1, .ret _ _ g2, h4⟩
        · cases hh
      split at h
      · next a1 u1 A1 hcd =>
        exact codeD_sound hm heqv hcs { c₀ with mode := uC } cs n c hcd hr (init_rel hargs fn) hu fun ρ' ec aC' uC' w' h1 h2 h3 h4 => by cases h3; exact fin h ρ' aC' uC' w' h1 h2 h4
      · next a1 u1 A1 hcd =>
        exact codeD_sound hm heqv hcs { c₀ with mode := uC } cs n c hcd hr (init_rel hargs fn) hu fun ρ' ec aC' uC' w' h1 h2 h3 h4 => by cases h3; exact fin h ρ' aC' uC' w' h1 h2 h4
      · next ch a1 u1 A1 hcd =>
        refine codeD_sound hm heqv hcs { c₀ with mode := uC } cs n c hcd hr (init_rel hargs fn) hu fun ρ' ec aC' uC' w' h1 h2 h3 h4 => ?_
        split at h
        · next hemp =>
          cases h
          have hd := h2.defers
          have : a1.defers = [] := by simpa using hemp
          rw [this] at hd
          cases h3 with
          | panic _ ch' hc => exact ⟨hd.nil_eq, uC', rfl, ρ', h1, .pan _ _ hc, h4⟩
        · cases h
      · cases h
  · cases h

theorem body_sound (hm : P.follows .mixedOrders = true) {eqv : Value → Value → Bool} (heqv : ∀ x y, eqv x y = true → x = y) {callF : CallF} (ih : CallSound P callF) (n : Nat) : CallSound P (aBody P eqv callF n) := by
  intro f args A e A' h
  simp only [aBody] at h
  split at h
  · next fn c hfn =>
    obtain ⟨hf, hb⟩ := funOf_some hfn
    refine ⟨by rw [hfn]; rfl, fun ρ w args' hr hargs => calls_of_wp_defers hf hb ?_⟩
    split at h
    · next a1 A1 hc =>
      exact code_sound hm heqv ih hc hr (init_rel hargs fn) fun ρ' ec aC' w' h1 h2 h3 => by
        cases h3
        exact leave_sound (deferred_sound hm heqv ih n) h h1 h2.defers .returning h2.tm
    · next a1 A1 hc =>
      exact code_sound hm heqv ih hc hr (init_rel hargs fn) fun ρ' ec aC' w' h1 h2 h3 => by
        cases h3
        exact leave_sound (deferred_sound hm heqv ih n) h h1 h2.defers .returning h2.tm
    · next ch a1 A1 hc =>
      exact code_sound hm heqv ih hc hr (init_rel hargs fn) fun ρ' ec aC' w' h1 h2 h3 => by
        cases h3 with
        | panic _ ch' hcr => exact leave_sound (deferred_sound hm heqv ih n) h h1 h2.defers (.panicking _ _ hcr) h2.tm
    · cases h
  · cases h

/-- The evaluator tells what the model does. -/
theorem aCallK_sound (hm : P.follows .mixedOrders = true) {eqv : Value → Value → Bool} (heqv : ∀ x y, eqv x y = true → x = y) {K : CallF} (hK : CallSound P K) : ∀ n, CallSound P (aCallK P eqv K n) := by
  intro n
  induction n with
  | zero => intro f args A e A' h; simp [aCallK] at h
  | succ n ih =>
    intro f args A e A' h
    simp only [aCallK] at h
    split at h
    · next r hr => cases h; exact hK f args A e A' hr
    · exact body_sound hm heqv ih n f args A e A' h

theorem nothing_sound : CallSound P (fun _ _ _ => none) := fun f args A e A' h => by cases h

theorem aCall_sound (hm : P.follows .mixedOrders = true) {eqv : Value → Value → Bool} (heqv : ∀ x y, eqv x y = true → x = y) (n : Nat) : CallSound P (aCall P eqv n) :=
  aCallK_sound hm heqv nothing_sound n

/-! What is known of calls. -/

theorem sameVals_eq {l m : List Value} (h : sameVals l m = true) : l = m := by
  unfold sameVals at h
  induction l generalizing m with
  | nil => cases m with | nil => rfl | cons y ys => simp at h
  | cons x xs ihl =>
    cases m with
    | nil => simp at h
    | cons y ys =>
      simp only [List.length_cons, List.zip_cons_cons, List.all_cons, Bool.and_eq_true, beq_iff_eq] at h
      obtain ⟨h1, h2, h3⟩ := h
      rw [sameVal_sound 8 x y h2, ihl (m := ys) (by simp only [Bool.and_eq_true, beq_iff_eq]; exact ⟨by omega, h3⟩)]

theorem map_three {α β γ δ : Type} {f : α → β} {g : α → γ} {h : α → δ} (hinj : ∀ x y, f x = f y → g x = g y → h x = h y → x = y) : ∀ {l m : List α}, l.map f = m.map f → l.map g = m.map g → l.map h = m.map h → l = m
  | [], [], _, _, _ => rfl
  | [], _ :: _, h1, _, _ => by simp at h1
  | _ :: _, [], h1, _, _ => by simp at h1
  | x :: l, y :: m, h1, h2, h3 => by
    simp only [List.map_cons, List.cons.injEq] at h1 h2 h3
    rw [hinj x y h1.1 h2.1 h3.1, map_three hinj h1.2 h2.2 h3.2]

theorem sameBlk_eq {x y : Blk} (h : sameBlk x y = true) : x = y := by
  unfold sameBlk at h
  split at h
  · simp only [Bool.and_eq_true, beq_iff_eq] at h; rw [h.1, sameVals_eq h.2]
  · simp only [Bool.and_eq_true, beq_iff_eq] at h
    obtain ⟨⟨⟨h1, h2⟩, h3⟩, h4⟩ := h
    rw [h1, map_three (fun x y a b c => by cases x; cases y; simp_all) (sameVals_eq h2) (sameVals_eq h3) h4]
  · cases h

theorem sameEnd_eq {x y : AEnd} (h : sameEnd x y = true) : x = y := by
  unfold sameEnd at h
  split at h
  · rw [sameVal_sound 8 _ _ h]
  · simp only [Bool.and_eq_true, beq_iff_eq] at h
    obtain ⟨⟨h1, h2⟩, h3⟩ := h
    rw [map_three (fun x y a b c => by cases x; cases y; simp_all) (sameVals_eq h1) h2 h3]
  · cases h

theorem holds_get {A : H} {l : List (Nat × Blk)} (h : holds A l = true) {b : Nat} {B : Blk} (hm : (b, B) ∈ l) : A.get b = some B := by
  unfold holds at h
  rw [List.all_eq_true] at h
  have := h (b, B) hm
  simp only at this
  split at this
  · next B' hg => rw [hg, sameBlk_eq this]
  · cases this

theorem putAll_get : ∀ {l : List (Nat × Blk)} {A : H} {b : Nat} {B : Blk}, (putAll l A).get b = some B → (b, B) ∈ l ∨ (A.get b = some B ∧ b ∉ l.map (·.1))
  | [], A, b, B, h => .inr ⟨h, by simp⟩
  | (c, C) :: l, A, b, B, h => by
    rcases putAll_get (l := l) h with h1 | ⟨h1, h2⟩
    · exact .inl (List.mem_cons_of_mem _ h1)
    · rw [H.get_put] at h1
      split at h1
      · next e => cases h1; subst e; exact .inl (by simp)
      · next e => exact .inr ⟨h1, by simp only [List.map_cons, List.mem_cons]; rintro (g | g); exact e g; exact h2 g⟩

theorem putAll_next : ∀ (l : List (Nat × Blk)) (A : H), (putAll l A).next = A.next ∧ (putAll l A).ro = A.ro
  | [], _ => ⟨rfl, rfl⟩
  | (c, C) :: l, A => putAll_next l (A.put c C)

theorem putAll_none : ∀ {l : List (Nat × Blk)} {A : H} {b : Nat}, b ∉ l.map (·.1) → (putAll l A).get b = A.get b
  | [], A, b, _ => rfl
  | (c, C) :: l, A, b, h => by
    simp only [List.map_cons, List.mem_cons, not_or] at h
    show (putAll l (A.put c C)).get b = _
    rw [putAll_none h.2, H.get_put, if_neg h.1]

/-- What is known is sound. -/
def Good (P : Program) (K : List Known) : Prop := CallSound P (knownF K)

theorem good_nil : Good P [] := fun f args A e A' h => by simp [knownF] at h

theorem good_cons {K : List Known} (hK : Good P K) {k : Known} {callF : CallF} (hcs : CallSound P callF) (hrun : k.runs callF = true) : Good P (k :: K) := by
  intro f args A e A' h
  unfold knownF at h
  rw [List.find?_cons] at h
  split at h
  · next k0 hfind =>
    split at hfind
    · next hkey =>
      cases hfind
      simp only [Bool.and_eq_true, beq_iff_eq] at hkey
      split at h
      · next hchk =>
        cases h
        simp only [Bool.and_eq_true, beq_iff_eq] at hchk
        obtain ⟨⟨hro, hargs⟩, hpre⟩ := hchk
        have hargs := sameVals_eq hargs
        unfold Known.runs at hrun
        split at hrun
        · next e1 A1 hcall =>
          simp only [Bool.and_eq_true, beq_iff_eq] at hrun
          obtain ⟨⟨⟨g1, g2⟩, g3⟩, g4⟩ := hrun
          have g1 := sameEnd_eq g1
          subst g1
          obtain ⟨hsome, hc⟩ := hcs _ _ _ _ _ hcall
          rw [hkey.1] at hsome hc
          refine ⟨hsome, fun ρ w args' hr hv => ?_⟩
          obtain ⟨sn, sr⟩ := putAll_next k.pre { next := k.nx, ro := k.ro, blks := T.nil }
          have hsub : ∀ b B, k.start.get b = some B → A.get b = some B := by
            intro b B hb
            rcases putAll_get hb with h1 | ⟨h1, _⟩
            · exact holds_get hpre h1
            · have : (T.nil : T Blk).get b = some B := h1
              rw [T.get_nil] at this; cases this
          have hr1 : Rel P ρ k.start w := hr.weaken hsub (sn.trans hkey.2) (sr.trans hro)
          refine (hc ρ w args' hr1 (hargs ▸ hv)).mono fun ec w' hpost => ?_
          obtain ⟨ρ', hmv, her⟩ := hpost
          obtain ⟨AL', l1, l2, l3⟩ := Mv.lift hr hsub (sn.trans hkey.2) (sr.trans hro) hmv
          refine ⟨ρ', l1.weaken (fun b B hb => ?_) ?_ ?_, her⟩
          · rw [l3]
            rcases putAll_get hb with h1 | ⟨h1, h2⟩
            · exact .inl (holds_get g4 h1)
            · have h3 : (A.blks.eraseAll (k.pre.map (·.1))).get b = some B := h1
              rw [T.get_eraseAll] at h3
              split at h3
              · cases h3
              · next hnin =>
                have hs : k.start.get b = none := by
                  show (putAll k.pre _).get b = none
                  rw [putAll_none hnin]
                  exact T.get_nil b
                have hlt := hr.lt (show A.get b = some B from h3)
                exact .inr ⟨hmv.dead b (by rw [show k.start.next = k.nx from sn, hkey.2]; exact hlt) hs, hs, h3⟩
          · rw [(putAll_next _ _).1, l2, g2]
          · rw [(putAll_next _ _).2]; show A.ro = AL'.ro; rw [l1.ro]
        · cases hrun
      · cases h
    · next hkey =>
      refine hK f args A e A' ?_
      unfold knownF
      rw [hfind]
      exact h
  · cases h

end calls
end Go.Ab
