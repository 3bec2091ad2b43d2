import Derived.Test.YteoncjaiigfpaaaGreatDoorAb7
set_option linter.all false
namespace Go.Ab
section
variable {P : Program}

noncomputable def eqvC (a b : Value) : Bool := @decide (a = b) (Classical.propDecidable _)
theorem eqvC_sound : ∀ x y, eqvC x y = true → x = y := by
  intro x y h
  unfold eqvC at h
  exact @of_decide_eq_true _ (Classical.propDecidable _) h
theorem eqvC_refl (v : Value) : eqvC v v = true := by
  unfold eqvC
  exact @decide_eq_true _ (Classical.propDecidable _) rfl

def CLe (c c' : CallF) : Prop := ∀ f args A r, c f args A = some r → c' f args A = some r
def DLe (c c' : CallD) : Prop := ∀ f args u A r, c f args u A = some r → c' f args u A = some r

theorem aOp_mono {c c' : CallF} (h : CLe c c') {ev : Operand → Option Value} {o : Oper} {A : H} {r : OR × H} (hr : aOp P c ev o A = some r) : aOp P c' ev o A = some r := by
  obtain ⟨dst, op, type, pos, after, guard⟩ := o
  cases op
  case call cc =>
    obtain ⟨callee, args, ats⟩ := cc
    cases callee
    case value f =>
      simp only [aOp] at hr ⊢
      split at hr
      · next g first cap as hf ha =>
        (try rw [hf, ha])
        try simp only
        split at hr
        · next v A' hc => (try rw [h _ _ _ _ hc]); exact hr
        · next ch A' hc => (try rw [h _ _ _ _ hc]); exact hr
        · cases hr
      · next x hf ha => (try rw [hf, ha]); exact hr
      · cases hr
    case invoke => exact hr
    case builtin b => cases b <;> exact hr
  case makeMap t res => cases res <;> exact hr
  all_goals exact hr

theorem aSeq_mono {c c' : CallF} (h : CLe c c') {ops : Array Oper} : ∀ {l : List Oper} {a : Act} {A : H} {r : AExit × Act × H}, aSeq P c ops l a A = some r → aSeq P c' ops l a A = some r
  | [], a, A, r, hr => hr
  | o :: l, a, A, r, hr => by
    unfold aSeq at hr ⊢
    split at hr
    · next hw =>
      (try rw [hw])
      try simp only
      split at hr
      · next v A' ho =>
        (try rw [aOp_mono h ho])
        try simp only
        split at hr
        · next a' hp => (try rw [hp]); exact aSeq_mono h hr
        · cases hr
      · next d A' ho =>
        (try rw [aOp_mono h ho])
        try simp only
        split at hr
        · next a' hp => (try rw [hp]); exact aSeq_mono h hr
        · cases hr
      · next ch A' ho => (try rw [aOp_mono h ho]); exact hr
      · cases hr
    · next hw =>
      (try rw [hw])
      try simp only
      split at hr
      · next a' hp => (try rw [hp]); exact aSeq_mono h hr
      · cases hr
    · cases hr

theorem ite_mono {α : Type} {c : Prop} [Decidable c] {x y y' : Option α} {r : α} (h : (if c then x else y) = some r) (k : y = some r → y' = some r) : (if c then x else y') = some r := by
  by_cases hc : c
  · rw [if_pos hc] at h ⊢; exact h
  · rw [if_neg hc] at h ⊢; exact k h
theorem ite_mono2 {α : Type} {c : Prop} [Decidable c] {x x' y : Option α} {r : α} (h : (if c then x else y) = some r) (k : x = some r → x' = some r) : (if c then x' else y) = some r := by
  by_cases hc : c
  · rw [if_pos hc] at h ⊢; exact k h
  · rw [if_neg hc] at h ⊢; exact h
theorem dStep_mono {c c' : CallF} (h : CLe c c') {opsA : Array Oper} {ah : List Nat} {base : Nat} {s : Step} {st st' : St} (hr : dStep P eqvC c opsA ah base s st = some st') : dStep P eqvC c' opsA ah base s st = some st' := by
  unfold dStep at hr ⊢
  cases ho : opsA.toList[s.i]? with
  | none => rw [ho] at hr; cases hr
  | some o =>
    rw [ho] at hr
    refine ite_mono hr fun hr => ?_
    cases hw : wantedA opsA st.a o with
    | none => rw [hw] at hr; cases hr
    | some b =>
      rw [hw] at hr
      cases b
      · exact hr
      · refine ite_mono2 hr fun hr => ?_
        cases h1 : aOp P c (evFor P o st.a) o st.A with
        | none => rw [h1] at hr; cases hr
        | some q => rw [h1] at hr; rw [aOp_mono h h1]; exact hr

theorem dRun_mono {c c' : CallF} (h : CLe c c') {opsA : Array Oper} {ah : List Nat} {base : Nat} : ∀ {l : List Step} {st st' : St}, dRun P eqvC c opsA ah base l st = some st' → dRun P eqvC c' opsA ah base l st = some st'
  | [], st, st', hr => hr
  | s :: l, st, st', hr => by
    unfold dRun at hr ⊢
    split at hr
    · next st1 h1 => (try rw [dStep_mono h h1]); exact dRun_mono h hr
    · cases hr

theorem aRegion_mono {c c' : CallF} (h : CLe c c') {ops : Array Oper} {draw : Bool} {a : Act} {A : H} {r : AExit × Act × H} (hr : aRegion P eqvC c ops draw a A = some r) : aRegion P eqvC c' ops draw a A = some r := by
  unfold aRegion at hr ⊢
  split
  · next hd =>
    rw [if_pos hd] at hr
    unfold aDraw at hr ⊢
    try simp only at hr ⊢
    split at hr
    · next hp =>
      (try rw [if_pos hp])
      split at hr
      · next h1 => (try rw [dRun_mono h h1]); exact hr
      · next h1 => (try rw [dRun_mono h h1]); exact hr
      · cases hr
    · cases hr
  · next hd =>
    rw [if_neg hd] at hr
    exact aSeq_mono h hr

theorem aCode_mono {c c' : CallF} (h : CLe c c') : ∀ {n m : Nat}, n ≤ m → ∀ {cd : Code} {a : Act} {A : H} {r : AExit × Act × H}, aCode P eqvC c n cd a A = some r → aCode P eqvC c' m cd a A = some r
  | 0, m, _, cd, a, A, r, hr => by unfold aCode at hr; cases hr
  | n + 1, 0, hm, cd, a, A, r, hr => by omega
  | n + 1, m + 1, hm, cd, a, A, r, hr => by
    have ih := @aCode_mono c c' h n m (by omega)
    cases cd
    case region id ops draw => exact aRegion_mono h hr
    case seq x y =>
      unfold aCode at hr ⊢
      try simp only at hr ⊢
      cases hx : aCode P eqvC c n x a A with
      | none => rw [hx] at hr; cases hr
      | some q =>
        rw [hx] at hr
        (try rw [ih hx])
        obtain ⟨e, a', A'⟩ := q
        cases e <;> first | exact hr | exact ih hr
    case cond x t e =>
      unfold aCode at hr ⊢
      try simp only at hr ⊢
      split at hr
      · next hb => (try rw [hb]); exact ih hr
      · next hb => (try rw [hb]); exact ih hr
      · cases hr
    case block id b =>
      unfold aCode at hr ⊢
      try simp only at hr ⊢
      cases hx : aCode P eqvC c n b a A with
      | none => rw [hx] at hr; cases hr
      | some q => rw [hx] at hr; rw [ih hx]; exact hr
    case loop b =>
      unfold aCode at hr ⊢
      try simp only at hr ⊢
      cases hx : aCode P eqvC c n b a A with
      | none => rw [hx] at hr; cases hr
      | some q =>
        rw [hx] at hr
        (try rw [ih hx])
        obtain ⟨e, a', A'⟩ := q
        cases e <;> first | exact hr | exact ih hr
    case scope b =>
      unfold aCode at hr ⊢
      try simp only at hr ⊢
      cases hx : aCode P eqvC c n b a A with
      | none => rw [hx] at hr; cases hr
      | some q => rw [hx] at hr; rw [ih hx]; exact hr
    all_goals first | exact hr | (unfold aCode at hr ⊢; exact hr)

theorem aSeqD_mono {c c' : CallF} (h : CLe c c') {ops : Array Oper} : ∀ {l : List Oper} {a : Act} {u : FrameMode} {A : H} {r : AExit × Act × FrameMode × H}, aSeqD P c ops l a u A = some r → aSeqD P c' ops l a u A = some r
  | [], a, u, A, r, hr => hr
  | o :: l, a, u, A, r, hr => by
    unfold aSeqD at hr ⊢
    split at hr
    · next hw =>
      (try rw [hw])
      try simp only
      split at hr
      · next hi =>
        (try rw [if_pos hi])
        split at hr
        · next a' hp => (try rw [hp]); exact aSeqD_mono h hr
        · cases hr
      · next hi =>
        (try rw [if_neg hi])
        split at hr
        · next v A' ho =>
          (try rw [aOp_mono h ho])
          try simp only
          split at hr
          · next a' hp => (try rw [hp]); exact aSeqD_mono h hr
          · cases hr
        · next ch A' ho => (try rw [aOp_mono h ho]); exact hr
        · cases hr
    · next hw =>
      (try rw [hw])
      try simp only
      split at hr
      · next a' hp => (try rw [hp]); exact aSeqD_mono h hr
      · cases hr
    · cases hr

theorem aCodeD_mono {c c' : CallF} (h : CLe c c') : ∀ {n m : Nat}, n ≤ m → ∀ {cd : Code} {a : Act} {u : FrameMode} {A : H} {r : AExit × Act × FrameMode × H}, aCodeD P eqvC c n cd a u A = some r → aCodeD P eqvC c' m cd a u A = some r
  | 0, m, _, cd, a, u, A, r, hr => by unfold aCodeD at hr; cases hr
  | n + 1, 0, hm, cd, a, u, A, r, hr => by omega
  | n + 1, m + 1, hm, cd, a, u, A, r, hr => by
    have ih := @aCodeD_mono c c' h n m (by omega)
    have light : ∀ cd', (match aCode P eqvC c n cd' a A with | some (e, a', A') => some (e, a', u, A') | none => none) = some r → (match aCode P eqvC c' m cd' a A with | some (e, a', A') => some (e, a', u, A') | none => none) = some r := by
      intro cd' h1
      cases hx : aCode P eqvC c n cd' a A with
      | none => rw [hx] at h1; cases h1
      | some q => rw [hx] at h1; rw [aCode_mono h (by omega) hx]; exact h1
    cases cd
    case region id ops draw =>
      cases draw
      · exact aSeqD_mono h hr
      · exact light _ hr
    case seq x y =>
      unfold aCodeD at hr ⊢
      try simp only at hr ⊢
      cases hx : aCodeD P eqvC c n x a u A with
      | none => rw [hx] at hr; cases hr
      | some q =>
        rw [hx] at hr
        (try rw [ih hx])
        obtain ⟨e, a', u', A'⟩ := q
        cases e <;> first | exact hr | exact ih hr
    case cond x t e =>
      unfold aCodeD at hr ⊢
      try simp only at hr ⊢
      split at hr
      · next hb => (try rw [hb]); exact ih hr
      · next hb => (try rw [hb]); exact ih hr
      · cases hr
    case block id b =>
      unfold aCodeD at hr ⊢
      try simp only at hr ⊢
      cases hx : aCodeD P eqvC c n b a u A with
      | none => rw [hx] at hr; cases hr
      | some q => rw [hx] at hr; rw [ih hx]; exact hr
    all_goals exact light _ hr

theorem aDeferred_mono {c c' : CallF} (h : CLe c c') {n m : Nat} (hm : n ≤ m) : DLe (aDeferred P eqvC c n) (aDeferred P eqvC c' m) := by
  intro g args u A r hr
  unfold aDeferred at hr ⊢
  split at hr
  · next fn cd hf =>
    (try rw [hf])
    try simp only
    cases u <;> simp only at hr ⊢ <;> first
    | cases hr
    | (cases hx : aCodeD P eqvC c n cd (initAct fn args) _ A with
      | none => rw [hx] at hr; cases hr
      | some q => rw [hx] at hr; rw [aCodeD_mono h hm hx]; exact hr)
  · cases hr

theorem aLeave_mono {d d' : CallD} (h : DLe d d') {fn : Func} {a : Act} : ∀ {ds : List Deferred} {u : FrameMode} {A : H} {r : AEnd × H}, aLeave P d fn a ds u A = some r → aLeave P d' fn a ds u A = some r
  | [], u, A, r, hr => by cases u <;> exact hr
  | x :: ds, u, A, r, hr => by
    unfold aLeave at hr ⊢
    split at hr
    · next g cap ht =>
      try rw [ht]
      try simp only
      cases h1 : d g (x.args.toList ++ cap.toList) u A with
      | none => rw [h1] at hr; cases hr
      | some q =>
        rw [h1] at hr
        rw [h _ _ _ _ _ h1]
        obtain ⟨e, u', A'⟩ := q
        cases e <;> exact aLeave_mono h hr
    · cases hr

theorem aBody_mono {c c' : CallF} (h : CLe c c') {n m : Nat} (hm : n ≤ m) : CLe (aBody P eqvC c n) (aBody P eqvC c' m) := by
  intro f args A r hr
  unfold aBody at hr ⊢
  split at hr
  · next fn cd hf =>
    (try rw [hf])
    try simp only
    cases hx : aCode P eqvC c n cd (initAct fn args) A with
    | none => rw [hx] at hr; cases hr
    | some q =>
      rw [hx] at hr
      (try rw [aCode_mono h hm hx])
      obtain ⟨e, a', A'⟩ := q
      cases e <;> first | cases hr | exact aLeave_mono (aDeferred_mono h hm) hr
  · cases hr

/-- The statements' heads: closed calls that are shown to come to yes apart from all this. -/
def heads : List String := ["underwood/underwoodlaw31.alive", "underwood/underwoodlaw32.awake", "underwood/underwoodlaw34.awake", "underwood/underwoodlaw35.shown", "underwood/underwoodlaw36.alive", "underwood/underwoodtop.groveAlive"]
/-- A call that comes to yes, and turns nothing that there was. -/
def SndTrue (P : Program) (f : FuncId) (A : H) : Prop := ∀ ρ w, Rel P ρ A w → Calls P f #[] w fun e w' => e = .returned (.bool true) ∧ w.heap.size ≤ w'.heap.size ∧ (∀ c, c < w.heap.size → w'.heap[c]? = w.heap[c]?) ∧ w'.tape = w.tape ∧ w'.os = w.os ∧ w'.output = w.output
def KSc (P : Program) (f : FuncId) (args : List Value) (A : H) : Prop := (funOf P f).isSome ∧ (∃ fn, P.funcs[f]? = some fn ∧ heads.contains fn.name = true) ∧ args = [] ∧ SndTrue P f A
noncomputable def KS (P : Program) : CallF := fun f args A => @ite _ (KSc P f args A) (Classical.propDecidable _) (some (.ret (.bool true), A)) none

theorem KS_sound : CallSound P (KS P) := by
  intro f args A e A' h
  unfold KS at h
  split at h
  · next hc =>
    obtain ⟨h0, _, rfl, h1⟩ := hc
    cases h
    refine ⟨h0, fun ρ w args' hr hv => ?_⟩
    have : args' = #[] := by
      have := hv.length
      simp at this
      exact Array.eq_empty_of_size_eq_zero (by omega)
    subst this
    refine (h1 ρ w hr).mono fun ec w' ⟨he, hs, hc, ht, ho, hu⟩ => ⟨ρ, ?_, ?_⟩
    · refine ⟨⟨fun b B hb => ?_, hr.inj, fun b L hb => Nat.lt_of_lt_of_le (hr.low b L hb) hs, hr.new, hr.ro, hr.glob⟩, fun _ _ => rfl, Nat.le_refl _, rfl, fun _ _ _ h => h, fun _ _ h => h, fun b B L hb hro hL => .inr ⟨b, B, L, hb, hro, hL, rfl⟩, hs, fun c hc' _ => hc c hc', ht, ho, hu⟩
      obtain ⟨L, k1, k2⟩ := hr.blk b B hb
      exact ⟨L, k1, k2.mono (Sub.refl _) id (hc _ (hr.low _ _ k1))⟩
    · subst he; exact .ret _ _ (.bool true)
  · cases h

/-- All calls: the heads by what is known of them. -/
noncomputable def aS (P : Program) (n : Nat) : CallF := aCallK P eqvC (KS P) n
theorem aS_sound (hm : P.follows .mixedOrders = true) (n : Nat) : CallSound P (aS P n) := aCallK_sound hm eqvC_sound KS_sound n

theorem aS_mono : ∀ {n m : Nat}, n ≤ m → CLe (aS P n) (aS P m)
  | 0, m, _ => fun f args A r hr => by cases hr
  | n + 1, 0, h => by omega
  | n + 1, m + 1, h => fun f args A r hr => by
    unfold aS aCallK at hr ⊢
    cases hk : KS P f args A with
    | some q => rw [hk] at hr; exact hr
    | none => rw [hk] at hr; exact aBody_mono (aS_mono (Nat.le_of_succ_le_succ h)) (Nat.le_of_succ_le_succ h) f args A r hr
theorem aS_body {f : FuncId} {fn : Func} (hf : P.funcs[f]? = some fn) (hn : heads.contains fn.name = false) (n : Nat) (args : List Value) (A : H) : aS P (n + 1) f args A = aBody P eqvC (aS P n) n f args A := by
  have : KS P f args A = none := by
    unfold KS
    rw [if_neg]
    rintro ⟨_, ⟨fn', h1, h2⟩, _⟩
    rw [hf] at h1; cases h1
    rw [hn] at h2; cases h2
  show (match KS P f args A with | some r => some r | none => aBody P eqvC (aS P n) n f args A) = _
  rw [this]
end
end Go.Ab

namespace Go.Ab

abbrev Env := List (Nat × Value)
def look : Env → Nat → Option Value
  | [], _ => none
  | (d, v) :: e, t => bif Nat.beq d t then some v else look e t

/-- All that r knows, e knows too. -/
def Has (e : Env) : Env → Prop
  | [] => True
  | (d, v) :: r => look e d = some v ∧ Has e r

theorem Has.look {e : Env} : ∀ {r : Env}, Has e r → ∀ t v, Ab.look r t = some v → Ab.look e t = some v
  | [], _, t, v, h => by cases h
  | (d, u) :: r, hh, t, v, h => by
    unfold Ab.look at h
    cases hb : Nat.beq d t with
    | true =>
      rw [hb] at h
      cases h
      rw [← Nat.eq_of_beq_eq_true hb]
      exact hh.1
    | false => rw [hb] at h; exact Has.look hh.2 t v h

theorem has_nil {e : Env} : Has e [] := trivial
theorem has_cons {e r : Env} {d : Nat} {v : Value} (h : look e d = some v) (k : Has e r) : Has e ((d, v) :: r) := ⟨h, k⟩

structure AgE (N : Nat) (ds : List Deferred) (e : Env) (a : Act) : Prop where
  n : a.n = N
  ds : a.defers = ds
  tm : ∀ t v, look e t = some v → a.tm.get t = some v

theorem AgE.less {N : Nat} {ds : List Deferred} {e e' : Env} {a : Act} (h : AgE N ds e a) (hh : Has e e') : AgE N ds e' a :=
  ⟨h.n, h.ds, fun t v hv => h.tm t v (hh.look t v hv)⟩

theorem AgE.put {N : Nat} {ds : List Deferred} {e : Env} {a : Act} (h : AgE N ds e a) {d : Nat} (hd : Nat.ble (d + 1) N = true) (v : Value) : ∃ a', a.put (some d) v = some a' ∧ AgE N ds ((d, v) :: e) a' := by
  obtain ⟨n, tm, dd⟩ := a
  obtain ⟨h1, h2, h3⟩ := h
  simp only at h1 h2 h3
  subst h1
  refine ⟨⟨n, tm.set d v, dd⟩, by simp only [Act.put, hd, cond_true], rfl, h2, fun t u hu => ?_⟩
  simp only [T.get_set]
  unfold look at hu
  cases hb : Nat.beq d t with
  | true => rw [hb] at hu; cases hu; rw [if_pos (Nat.eq_of_beq_eq_true hb).symm]
  | false =>
    rw [hb] at hu
    rw [if_neg (fun he => by subst he; rw [Nat.beq_refl] at hb; cases hb)]
    exact h3 t u hu

/-- d is written, if there is one. -/
def envPut (d : Option Tmp) (v : Value) (e : Env) : Env := match d with
  | some d => (d, v) :: e
  | none => e
def dstOk (N : Nat) : Option Tmp → Bool
  | some d => Nat.ble (d + 1) N
  | none => true

theorem AgE.put' {N : Nat} {ds : List Deferred} {e : Env} {a : Act} (h : AgE N ds e a) {d : Option Tmp} (hd : dstOk N d = true) (v : Value) : ∃ a', a.put d v = some a' ∧ AgE N ds (envPut d v e) a' := by
  cases d with
  | none => exact ⟨a, rfl, h⟩
  | some d => exact h.put hd v

/-- What is known of a block of one's own: nothing; what it holds; that it will be made. -/
inductive KE where
  | no
  | at (b : Nat) (B : Blk)
  | rsv (b : Nat)
abbrev Kn := List KE
abbrev Hp := Nat → Option Blk
def KE.key : KE → Option Nat
  | .no => none
  | .at b _ => some b
  | .rsv b => some b
def keys (K : Kn) : List Nat := K.filterMap KE.key
def BLe (B B' : Hp) : Prop := ∀ b x, B b = some x → B' b = some x
theorem BLe.refl (B : Hp) : BLe B B := fun _ _ h => h
theorem BLe.trans {B C D : Hp} (h : BLe B C) (k : BLe C D) : BLe B D := fun b x e => k b x (h b x e)

structure St1 (B : Hp) (K : Kn) (A : H) : Prop where
  base : ∀ b x, B b = some x → A.get b = some x ∧ b < A.next
  at_ : ∀ b x, KE.at b x ∈ K → A.get b = some x
  rsv : ∀ b, KE.rsv b ∈ K → A.get b = none
  low : ∀ b, b ∈ keys K → A.ro ≤ b ∧ b < A.next ∧ B b = none
  nod : (keys K).Nodup
  ro : A.ro ≤ A.next
  fresh : ∀ b, A.next ≤ b → A.get b = none

theorem mem_keys {K : Kn} {k : KE} {b : Nat} (h : k ∈ K) (hk : k.key = some b) : b ∈ keys K := List.mem_filterMap.2 ⟨_, h, hk⟩
theorem St1.own {B : Hp} {K : Kn} {A : H} (h : St1 B K A) (b : Nat) (x : Blk) (hb : KE.at b x ∈ K) : A.get b = some x ∧ A.ro ≤ b ∧ b < A.next ∧ B b = none :=
  ⟨h.at_ b x hb, h.low b (mem_keys hb rfl)⟩

theorem St1.perm {B : Hp} {K K' : Kn} {A : H} (h : St1 B K A) (hp : K.Perm K') : St1 B K' A :=
  ⟨h.base, fun b x hb => h.at_ b x (hp.mem_iff.2 hb), fun b hb => h.rsv b (hp.mem_iff.2 hb), fun b hb => h.low b ((hp.filterMap _).mem_iff.2 hb), (hp.filterMap _).nodup_iff.1 h.nod, h.ro, h.fresh⟩

/-- A new block. -/
theorem St1.push {B : Hp} {K : Kn} {A : H} (h : St1 B K A) (x : Blk) : St1 B (.at A.next x :: K) (A.push x) where
  base := fun b y hb => by
    have := h.base b y hb
    rw [H.get_push, if_neg (by omega)]
    exact ⟨this.1, Nat.lt_succ_of_lt this.2⟩
  at_ := fun b y hb => by
    rcases List.mem_cons.1 hb with e | hb
    · cases e; rw [H.get_push, if_pos rfl]
    · have := h.own b y hb
      rw [H.get_push, if_neg (by omega)]
      exact this.1
  rsv := fun b hb => by
    rcases List.mem_cons.1 hb with e | hb
    · cases e
    · have := h.low b (mem_keys hb rfl)
      rw [H.get_push, if_neg (by omega)]
      exact h.rsv b hb
  low := fun b hb => by
    rcases List.mem_cons.1 (show b ∈ A.next :: keys K from hb) with e | hb
    · subst e
      refine ⟨h.ro, Nat.lt_succ_self _, ?_⟩
      cases hB : B A.next with
      | none => rfl
      | some z => exact absurd (h.base _ _ hB).2 (Nat.lt_irrefl _)
    · have := h.low b hb
      exact ⟨this.1, Nat.lt_succ_of_lt this.2.1, this.2.2⟩
  nod := List.nodup_cons.2 ⟨fun hm => absurd (h.low _ hm).2.1 (Nat.lt_irrefl _), h.nod⟩
  ro := Nat.le_succ_of_le h.ro
  fresh := fun b hb => by
    have hb' : A.next + 1 ≤ b := hb
    rw [H.get_push, if_neg (by omega)]
    exact h.fresh b (by omega)

def Hp.put (B : Hp) (b : Nat) (x : Blk) : Hp := fun c => if c = b then some x else B c

/-- What stands at i comes to the front. -/
def Kn.front (K : Kn) (i : Nat) : Kn := K.getD i .no :: K.eraseIdx i

theorem Kn.front_perm : ∀ (K : Kn) (i : Nat), i < K.length → K.Perm (K.front i)
  | [], i, h => by cases h
  | k :: K, 0, h => by simp [Kn.front]
  | k :: K, i + 1, h => by
    have := Kn.front_perm K i (by simpa using h)
    have h2 := (this.cons k).trans (List.Perm.swap ..)
    simpa [Kn.front] using h2

theorem perm_frame {K K' Kf : Kn} (h : K.Perm K') : (K ++ Kf).Perm (K' ++ Kf) := h.append_right Kf

end Go.Ab

namespace Go.Ab
section
variable (P : Program)

def evE (e : Env) : Operand → Option Value
  | .tmp t => look e t
  | .const v => if plain v then some v else none
  | .global g => if g < P.globals.size then some (.pointer (some ⟨g, 0, none⟩)) else none
  | .func f => some (.func (.func f) #[] #[])

def evsE (e : Env) : List Operand → Option (List Value)
  | [] => some []
  | x :: xs => match evE P e x, evsE e xs with
    | some v, some vs => some (v :: vs)
    | _, _ => none

def EvOk (e : Env) (o : Oper) (ev : Operand → Option Value) : Prop := ∀ x v, x ∈ o.op.operands.toList → evE P e x = some v → ev x = some v

/-- A light operation comes to v. -/
def WL (o : Oper) (e : Env) (v : Value) : Prop := ∀ ev, EvOk P e o ev → aLight P ev o = some (.val v)
/-- A light operation panics. -/
def WLp (o : Oper) (e : Env) (ch : List PanicEntry) : Prop := ∀ ev, EvOk P e o ev → aLight P ev o = some (.pan ch)
/-- An operation makes a row. -/
def WM (o : Oper) (e : Env) (cells : List Value) (esz : Nat) (l : Option Nat) : Prop := ∀ ev, EvOk P e o ev → aMake P ev o = some (.row cells esz l)
/-- A load comes to v. -/
def WR (t : TypeId) (p : Value) (B : Hp) (K : Kn) (v : Value) : Prop := ∀ A Kf, St1 B (K ++ Kf) A → aLoad P A t p = some v

/-- An operation, whatever else lies in memory. -/
def WO (o : Oper) (e : Env) (B : Hp) (K : Kn) (R : OR → Hp → Kn → Prop) : Prop := ∀ ev A Kf, EvOk P e o ev → St1 B (K ++ Kf) A →
  ∃ r A' B' K', (∃ n, ∀ m, n ≤ m → aOp P (aS P m) ev o A = some (r, A')) ∧ St1 B' (K' ++ Kf) A' ∧ A'.ro = A.ro ∧ BLe B B' ∧ R r B' K'

abbrev PQ := AExit → Env → List Deferred → Hp → Kn → Prop

def WS (N : Nat) (ops : Array Oper) (rest : List Oper) (e : Env) (ds : List Deferred) (B : Hp) (K : Kn) (Q : PQ) : Prop := ∀ a A Kf, AgE N ds e a → St1 B (K ++ Kf) A →
  ∃ x a' A' e' ds' B' K', (∃ n, ∀ m, n ≤ m → aSeq P (aS P m) ops rest a A = some (x, a', A')) ∧ AgE N ds' e' a' ∧ St1 B' (K' ++ Kf) A' ∧ A'.ro = A.ro ∧ BLe B B' ∧ Q x e' ds' B' K'

def WC (N : Nat) (c : Code) (e : Env) (ds : List Deferred) (B : Hp) (K : Kn) (Q : PQ) : Prop := ∀ a A Kf, AgE N ds e a → St1 B (K ++ Kf) A →
  ∃ x a' A' e' ds' B' K', (∃ n, ∀ m k, n ≤ m → n ≤ k → aCode P eqvC (aS P m) k c a A = some (x, a', A')) ∧ AgE N ds' e' a' ∧ St1 B' (K' ++ Kf) A' ∧ A'.ro = A.ro ∧ BLe B B' ∧ Q x e' ds' B' K'

def Does (f : FuncId) (args : List Value) (B : Hp) (K : Kn) (Q : AEnd → Hp → Kn → Prop) : Prop := ∀ A Kf, St1 B (K ++ Kf) A →
  ∃ r A' B' K', (∃ n, ∀ m, n ≤ m → aS P m f args A = some (r, A')) ∧ St1 B' (K' ++ Kf) A' ∧ A'.ro = A.ro ∧ BLe B B' ∧ Q r B' K'

variable {P : Program}

theorem AgE.ev {N : Nat} {ds : List Deferred} {e : Env} {a : Act} (h : AgE N ds e a) {x : Operand} {v : Value} (hv : evE P e x = some v) : a.ev P x = some v := by
  cases x with
  | tmp t => exact h.tm _ _ hv
  | const v => exact hv
  | global g => exact hv
  | func f => exact hv
theorem AgE.evOk {N : Nat} {ds : List Deferred} {e : Env} {a : Act} (h : AgE N ds e a) (o : Oper) : EvOk P e o (a.ev P) := fun _ _ _ hv => h.ev hv
theorem AgE.evFor {N : Nat} {ds : List Deferred} {e : Env} {a : Act} (h : AgE N ds e a) (o : Oper) : EvOk P e o (evFor P o a) := fun x v hx hv => by
  cases x with
  | tmp t =>
    have : (opTmps o).contains t = true := by
      rw [List.contains_iff_mem]
      exact List.mem_filterMap.2 ⟨.tmp t, hx, rfl⟩
    simp only [Ab.evFor, this, if_true]
    exact h.tm _ _ hv
  | const v => exact hv
  | global g => exact hv
  | func f => exact hv

theorem EvOk.evs {e : Env} {o : Oper} {ev : Operand → Option Value} (h : EvOk P e o ev) : ∀ {l : List Operand} {vs : List Value}, (∀ x ∈ l, x ∈ o.op.operands.toList) → evsE P e l = some vs → evs ev l = some vs
  | [], vs, _, hv => hv
  | x :: xs, vs, hm, hv => by
    unfold evsE at hv
    split at hv
    · next v ws h1 h2 =>
      cases hv
      unfold Ab.evs
      rw [h _ _ (hm x (List.mem_cons_self ..)) h1, h.evs (fun y hy => hm y (List.mem_cons_of_mem _ hy)) h2]
    · cases hv

/-! Consequence. -/
theorem WC.mono {N : Nat} {c : Code} {e : Env} {ds : List Deferred} {B : Hp} {K : Kn} {Q R : PQ} (h : WC P N c e ds B K Q) (hq : ∀ x e ds B K, Q x e ds B K → R x e ds B K) : WC P N c e ds B K R := by
  intro a A Kf ha hs
  obtain ⟨x, a', A', e', ds', B', K', h1, h2, h3, h4, h5, h6⟩ := h a A Kf ha hs
  exact ⟨x, a', A', e', ds', B', K', h1, h2, h3, h4, h5, hq _ _ _ _ _ h6⟩
theorem Does.mono {f : FuncId} {args : List Value} {B : Hp} {K : Kn} {Q R : AEnd → Hp → Kn → Prop} (h : Does P f args B K Q) (hq : ∀ r B' K', BLe B B' → Q r B' K' → R r B' K') : Does P f args B K R := by
  intro A Kf hs
  obtain ⟨r, A', B', K', h1, h2, h3, h4, h5⟩ := h A Kf hs
  exact ⟨r, A', B', K', h1, h2, h3, h4, hq _ _ _ h4 h5⟩
theorem Does.perm {f : FuncId} {args : List Value} {B : Hp} {K K2 : Kn} {Q : AEnd → Hp → Kn → Prop} (hp : K.Perm K2) (h : Does P f args B K2 Q) : Does P f args B K Q :=
  fun A Kf hs => h A Kf (hs.perm (perm_frame hp))
theorem Does.frame {f : FuncId} {args : List Value} {B : Hp} {K : Kn} (Kr : Kn) {Q : AEnd → Hp → Kn → Prop} (h : Does P f args B K Q) : Does P f args B (K ++ Kr) (fun r B' K' => ∃ K2, K' = K2 ++ Kr ∧ Q r B' K2) := by
  intro A Kf hs
  rw [List.append_assoc] at hs
  obtain ⟨r, A', B', K', h1, h2, h3, h4, h5⟩ := h A (Kr ++ Kf) hs
  exact ⟨r, A', B', K' ++ Kr, h1, by rw [List.append_assoc]; exact h2, h3, h4, K', rfl, h5⟩
/-- A call that needs nothing of one's own, and leaves nothing. -/
theorem Does.pure {f : FuncId} {args : List Value} {B : Hp} {K : Kn} {Q : AEnd → Hp → Kn → Prop} {R : AEnd → Hp → Kn → Prop} (h : Does P f args B [] Q) (hq : ∀ r B' K', BLe B B' → Q r B' K' → R r B' (K' ++ K)) : Does P f args B K R :=
  (h.frame K).mono fun r B' K' hb ⟨K2, e, hk⟩ => e ▸ hq r B' K2 hb hk

/-! Code. -/
def seqK (P : Program) (N : Nat) (y : Code) (Q : PQ) : PQ := fun x e ds B K => match x with
  | .normal => WC P N y e ds B K Q
  | x => Q x e ds B K
def blockK (id : Nat) (Q : PQ) : PQ := fun x e ds B K => match x with
  | .exit i => bif Nat.beq i id then Q .normal e ds B K else Q (.exit i) e ds B K
  | x => Q x e ds B K

theorem seqK_n {N : Nat} {y : Code} {Q : PQ} {e : Env} {ds : List Deferred} {B : Hp} {K : Kn} (h : WC P N y e ds B K Q) : seqK P N y Q .normal e ds B K := h
theorem seqK_x {N : Nat} {y : Code} {Q : PQ} {i : Nat} {e : Env} {ds : List Deferred} {B : Hp} {K : Kn} (h : Q (.exit i) e ds B K) : seqK P N y Q (.exit i) e ds B K := h
theorem seqK_r {N : Nat} {y : Code} {Q : PQ} {e : Env} {ds : List Deferred} {B : Hp} {K : Kn} (h : Q .ret e ds B K) : seqK P N y Q .ret e ds B K := h
theorem seqK_p {N : Nat} {y : Code} {Q : PQ} {ch : List PanicEntry} {e : Env} {ds : List Deferred} {B : Hp} {K : Kn} (h : Q (.panic ch) e ds B K) : seqK P N y Q (.panic ch) e ds B K := h
theorem blockK_n {id : Nat} {Q : PQ} {e : Env} {ds : List Deferred} {B : Hp} {K : Kn} (h : Q .normal e ds B K) : blockK id Q .normal e ds B K := h
theorem blockK_r {id : Nat} {Q : PQ} {e : Env} {ds : List Deferred} {B : Hp} {K : Kn} (h : Q .ret e ds B K) : blockK id Q .ret e ds B K := h
theorem blockK_p {id : Nat} {Q : PQ} {ch : List PanicEntry} {e : Env} {ds : List Deferred} {B : Hp} {K : Kn} (h : Q (.panic ch) e ds B K) : blockK id Q (.panic ch) e ds B K := h
theorem blockK_x {id i : Nat} {Q : PQ} {e : Env} {ds : List Deferred} {B : Hp} {K : Kn} (hi : Nat.beq i id = true) (h : Q .normal e ds B K) : blockK id Q (.exit i) e ds B K := by
  simp only [blockK, hi, cond_true]; exact h
theorem blockK_y {id i : Nat} {Q : PQ} {e : Env} {ds : List Deferred} {B : Hp} {K : Kn} (hi : Nat.beq i id = false) (h : Q (.exit i) e ds B K) : blockK id Q (.exit i) e ds B K := by
  simp only [blockK, hi, cond_false]; exact h

theorem fuel1 {P : Program} {c : CallF} {k : Nat} {n : Nat} {r : Option (AExit × Act × H)} (h : n + 1 ≤ k) (cd : Code) (a : Act) (A : H) (p : ∀ k', n ≤ k' → aCode P eqvC c (k' + 1) cd a A = r) : aCode P eqvC c k cd a A = r := by
  obtain ⟨k', rfl⟩ : ∃ k', k = k' + 1 := ⟨k - 1, by omega⟩
  exact p k' (by omega)

theorem wc_simple {N : Nat} {c : Code} {x : AExit} {e : Env} {ds : List Deferred} {B : Hp} {K : Kn} {Q : PQ} (hc : ∀ (cf : CallF) k a A, aCode P eqvC cf (k + 1) c a A = some (x, a, A)) (h : Q x e ds B K) : WC P N c e ds B K Q :=
  fun a A Kf ha hs => ⟨x, a, A, e, ds, B, K, ⟨1, fun m k _ hk => fuel1 hk c a A fun k' _ => hc _ k' a A⟩, ha, hs, rfl, BLe.refl B, h⟩
theorem wc_skip {N : Nat} {e : Env} {ds : List Deferred} {B : Hp} {K : Kn} {Q : PQ} (h : Q .normal e ds B K) : WC P N .skip e ds B K Q := wc_simple (fun _ _ _ _ => rfl) h
theorem wc_label {N l : Nat} {e : Env} {ds : List Deferred} {B : Hp} {K : Kn} {Q : PQ} (h : Q .normal e ds B K) : WC P N (.label l) e ds B K Q := wc_simple (fun _ _ _ _ => rfl) h
theorem wc_ret {N : Nat} {e : Env} {ds : List Deferred} {B : Hp} {K : Kn} {Q : PQ} (h : Q .ret e ds B K) : WC P N .ret e ds B K Q := wc_simple (fun _ _ _ _ => rfl) h
theorem wc_exit {N i : Nat} {e : Env} {ds : List Deferred} {B : Hp} {K : Kn} {Q : PQ} (h : Q (.exit i) e ds B K) : WC P N (.exit i) e ds B K Q := wc_simple (fun _ _ _ _ => rfl) h

theorem wc_seq {N : Nat} {x y : Code} {e : Env} {ds : List Deferred} {B : Hp} {K : Kn} {Q : PQ} (h : WC P N x e ds B K (seqK P N y Q)) : WC P N (.seq x y) e ds B K Q := by
  intro a A Kf ha hs
  obtain ⟨z, a1, A1, e1, ds1, B1, K1, ⟨n1, h1⟩, h2, h3, h4, h5, h6⟩ := h a A Kf ha hs
  cases z with
  | normal =>
    obtain ⟨z2, a2, A2, e2, ds2, B2, K2, ⟨n2, g1⟩, g2, g3, g4, g5, g6⟩ := (show WC P N y e1 ds1 B1 K1 Q from h6) a1 A1 Kf h2 h3
    refine ⟨z2, a2, A2, e2, ds2, B2, K2, ⟨n1 + n2 + 1, fun m k hm hk => fuel1 hk _ a A fun k' hk' => ?_⟩, g2, g3, g4.trans h4, h5.trans g5, g6⟩
    show (match aCode P eqvC (aS P m) k' x a A with | some (.normal, a', A') => aCode P eqvC (aS P m) k' y a' A' | r => r) = _
    rw [h1 m k' (by omega) (by omega)]
    exact g1 m k' (by omega) (by omega)
  | _ =>
    refine ⟨_, a1, A1, e1, ds1, B1, K1, ⟨n1 + 1, fun m k hm hk => fuel1 hk _ a A fun k' hk' => ?_⟩, h2, h3, h4, h5, h6⟩
    show (match aCode P eqvC (aS P m) k' x a A with | some (.normal, a', A') => aCode P eqvC (aS P m) k' y a' A' | r => r) = _
    rw [h1 m k' (by omega) (by omega)]

theorem wc_block {N id : Nat} {b : Code} {e : Env} {ds : List Deferred} {B : Hp} {K : Kn} {Q : PQ} (h : WC P N b e ds B K (blockK id Q)) : WC P N (.block id b) e ds B K Q := by
  intro a A Kf ha hs
  obtain ⟨z, a1, A1, e1, ds1, B1, K1, ⟨n1, h1⟩, h2, h3, h4, h5, h6⟩ := h a A Kf ha hs
  have run : ∀ m k', n1 ≤ m → n1 ≤ k' → aCode P eqvC (aS P m) (k' + 1) (.block id b) a A = (match (some (z, a1, A1) : Option (AExit × Act × H)) with | some (.exit i, a', A') => if i = id then some (AExit.normal, a', A') else some (AExit.exit i, a', A') | r => r) := by
    intro m k' hm hk
    show (match aCode P eqvC (aS P m) k' b a A with | some (AExit.exit i, a', A') => if i = id then some (AExit.normal, a', A') else some (AExit.exit i, a', A') | r => r) = _
    rw [h1 m k' hm hk]
  cases z with
  | exit i =>
    cases hb : Nat.beq i id with
    | true =>
      have hi := Nat.eq_of_beq_eq_true hb
      refine ⟨.normal, a1, A1, e1, ds1, B1, K1, ⟨n1 + 1, fun m k hm hk => fuel1 hk _ a A fun k' hk' => ?_⟩, h2, h3, h4, h5, ?_⟩
      · rw [run m k' (by omega) (by omega)]; simp only [hi, if_true]
      · simpa only [blockK, hb, cond_true] using h6
    | false =>
      have hi : ¬ i = id := fun e => by subst e; rw [Nat.beq_refl] at hb; cases hb
      refine ⟨.exit i, a1, A1, e1, ds1, B1, K1, ⟨n1 + 1, fun m k hm hk => fuel1 hk _ a A fun k' hk' => ?_⟩, h2, h3, h4, h5, ?_⟩
      · rw [run m k' (by omega) (by omega)]; simp only [hi, if_false]
      · simpa only [blockK, hb, cond_false] using h6
  | _ => exact ⟨_, a1, A1, e1, ds1, B1, K1, ⟨n1 + 1, fun m k hm hk => fuel1 hk _ a A fun k' hk' => by rw [run m k' (by omega) (by omega)]⟩, h2, h3, h4, h5, h6⟩

theorem wc_cond {N : Nat} {x : Operand} {b : Bool} {s t : Code} {e : Env} {ds : List Deferred} {B : Hp} {K : Kn} {Q : PQ} (hx : evE P e x = some (.bool b)) (hs : b = true → WC P N s e ds B K Q) (ht : b = false → WC P N t e ds B K Q) : WC P N (.cond x s t) e ds B K Q := by
  intro a A Kf ha hst
  cases b with
  | true =>
    obtain ⟨z, a1, A1, e1, ds1, B1, K1, ⟨n1, h1⟩, h2⟩ := hs rfl a A Kf ha hst
    refine ⟨z, a1, A1, e1, ds1, B1, K1, ⟨n1 + 1, fun m k hm hk => fuel1 hk _ a A fun k' hk' => ?_⟩, h2⟩
    unfold aCode
    simp only [ha.ev hx]
    exact h1 m k' (by omega) (by omega)
  | false =>
    obtain ⟨z, a1, A1, e1, ds1, B1, K1, ⟨n1, h1⟩, h2⟩ := ht rfl a A Kf ha hst
    refine ⟨z, a1, A1, e1, ds1, B1, K1, ⟨n1 + 1, fun m k hm hk => fuel1 hk _ a A fun k' hk' => ?_⟩, h2⟩
    unfold aCode
    simp only [ha.ev hx]
    exact h1 m k' (by omega) (by omega)

theorem wc_cond_p {N : Nat} {x : Operand} {p : Prop} [Decidable p] {s t : Code} {e : Env} {ds : List Deferred} {B : Hp} {K : Kn} {Q : PQ} (hx : evE P e x = some (.bool (decide p))) (hs : p → WC P N s e ds B K Q) (ht : ¬p → WC P N t e ds B K Q) : WC P N (.cond x s t) e ds B K Q :=
  wc_cond hx (fun h => hs (of_decide_eq_true h)) (fun h => ht (of_decide_eq_false h))
theorem wc_cond_np {N : Nat} {x : Operand} {p : Prop} [Decidable p] {s t : Code} {e : Env} {ds : List Deferred} {B : Hp} {K : Kn} {Q : PQ} (hx : evE P e x = some (.bool (!decide p))) (hs : ¬p → WC P N s e ds B K Q) (ht : p → WC P N t e ds B K Q) : WC P N (.cond x s t) e ds B K Q :=
  wc_cond hx (fun h => hs (by simpa using h)) (fun h => ht (by simpa using h))
theorem wc_cond_t {N : Nat} {x : Operand} {s t : Code} {e : Env} {ds : List Deferred} {B : Hp} {K : Kn} {Q : PQ} (hx : evE P e x = some (.bool true)) (hs : WC P N s e ds B K Q) : WC P N (.cond x s t) e ds B K Q :=
  wc_cond hx (fun _ => hs) (fun h => by cases h)
theorem wc_cond_f {N : Nat} {x : Operand} {s t : Code} {e : Env} {ds : List Deferred} {B : Hp} {K : Kn} {Q : PQ} (hx : evE P e x = some (.bool false)) (ht : WC P N t e ds B K Q) : WC P N (.cond x s t) e ds B K Q :=
  wc_cond hx (fun h => by cases h) (fun _ => ht)

/-- Less is known. -/
theorem wc_less {N : Nat} {c : Code} {e e' : Env} {ds : List Deferred} {B : Hp} {K : Kn} {Q : PQ} (hh : Has e e') (h : WC P N c e' ds B K Q) : WC P N c e ds B K Q :=
  fun a A Kf ha hs => h a A Kf (ha.less hh) hs
theorem wc_perm {N : Nat} {c : Code} {e : Env} {ds : List Deferred} {B : Hp} {K K' : Kn} {Q : PQ} (hp : K.Perm K') (h : WC P N c e ds B K' Q) : WC P N c e ds B K Q :=
  fun a A Kf ha hs => h a A Kf ha (hs.perm (perm_frame hp))

def loopK {ι : Type} (mes : ι → Nat) (env : ι → Env) (I : ι → Hp → Kn → Prop) (i : ι) (ds : List Deferred) (Q : PQ) : PQ := fun x e ds' B' K' => match x with
  | .normal => ds' = ds ∧ ∃ j, I j B' K' ∧ Has e (env j) ∧ mes j < mes i
  | x => Q x e ds' B' K'
theorem loopK_n {ι : Type} {mes : ι → Nat} {env : ι → Env} {I : ι → Hp → Kn → Prop} {i : ι} {Q : PQ} {e : Env} {ds : List Deferred} {B : Hp} {K : Kn} (j : ι) (h1 : I j B K) (h2 : Has e (env j)) (h3 : mes j < mes i) : loopK mes env I i ds Q .normal e ds B K := ⟨rfl, j, h1, h2, h3⟩
theorem loopK_x {ι : Type} {mes : ι → Nat} {env : ι → Env} {I : ι → Hp → Kn → Prop} {i : ι} {Q : PQ} {n : Nat} {e : Env} {ds ds' : List Deferred} {B : Hp} {K : Kn} (h : Q (.exit n) e ds' B K) : loopK mes env I i ds Q (.exit n) e ds' B K := h
theorem loopK_r {ι : Type} {mes : ι → Nat} {env : ι → Env} {I : ι → Hp → Kn → Prop} {i : ι} {Q : PQ} {e : Env} {ds ds' : List Deferred} {B : Hp} {K : Kn} (h : Q .ret e ds' B K) : loopK mes env I i ds Q .ret e ds' B K := h
theorem loopK_p {ι : Type} {mes : ι → Nat} {env : ι → Env} {I : ι → Hp → Kn → Prop} {i : ι} {Q : PQ} {ch : List PanicEntry} {e : Env} {ds ds' : List Deferred} {B : Hp} {K : Kn} (h : Q (.panic ch) e ds' B K) : loopK mes env I i ds Q (.panic ch) e ds' B K := h
/-- A loop, by what holds ahead of each round, and a measure. -/
theorem wc_loop {N : Nat} {b : Code} {ds : List Deferred} {Q : PQ} {ι : Type} (mes : ι → Nat) (env : ι → Env) (I : ι → Hp → Kn → Prop)
    (step : ∀ i B K, I i B K → WC P N b (env i) ds B K (loopK mes env I i ds Q)) :
    ∀ (i : ι) {e : Env} {B : Hp} {K : Kn}, Has e (env i) → I i B K → WC P N (.loop b) e ds B K Q := by
  have main : ∀ (n : Nat) (i : ι) {e : Env} {B : Hp} {K : Kn}, mes i < n → Has e (env i) → I i B K → WC P N (.loop b) e ds B K Q := by
    intro n
    induction n with
    | zero => intro i e B K h; omega
    | succ n ih =>
      intro i e B K hn hh hi a A Kf ha hs
      obtain ⟨z, a1, A1, e1, ds1, B1, K1, ⟨n1, h1⟩, h2, h3, h4, h5, h6⟩ := step i B K hi a A Kf (ha.less hh) hs
      have run : ∀ m k', n1 ≤ m → n1 ≤ k' → aCode P eqvC (aS P m) (k' + 1) (.loop b) a A = (match (some (z, a1, A1) : Option (AExit × Act × H)) with | some (.normal, a', A') => aCode P eqvC (aS P m) k' (.loop b) a' A' | r => r) := by
        intro m k' hm hk
        show (match aCode P eqvC (aS P m) k' b a A with | some (.normal, a', A') => aCode P eqvC (aS P m) k' (.loop b) a' A' | r => r) = _
        rw [h1 m k' hm hk]
      cases z with
      | normal =>
        obtain ⟨rfl, j, hj, hhj, hlt⟩ := h6
        obtain ⟨z2, a2, A2, e2, ds2, B2, K2, ⟨n2, g1⟩, g2, g3, g4, g5, g6⟩ := ih j (by omega) hhj hj a1 A1 Kf h2 h3
        refine ⟨z2, a2, A2, e2, ds2, B2, K2, ⟨n1 + n2 + 1, fun m k hm hk => fuel1 hk _ a A fun k' hk' => ?_⟩, g2, g3, g4.trans h4, h5.trans g5, g6⟩
        rw [run m k' (by omega) (by omega)]
        exact g1 m k' (by omega) (by omega)
      | _ => exact ⟨_, a1, A1, e1, ds1, B1, K1, ⟨n1 + 1, fun m k hm hk => fuel1 hk _ a A fun k' hk' => by rw [run m k' (by omega) (by omega)]⟩, h2, h3, h4, h5, h6⟩
  exact fun i => main (mes i + 1) i (by omega)

theorem wc_region {N id : Nat} {ops : Array Oper} {e : Env} {ds : List Deferred} {B : Hp} {K : Kn} {Q : PQ} (h : WS P N ops ops.toList e ds B K Q) : WC P N (.region id ops false) e ds B K Q := by
  intro a A Kf ha hs
  obtain ⟨z, a1, A1, e1, ds1, B1, K1, ⟨n1, h1⟩, h2⟩ := h a A Kf ha hs
  exact ⟨z, a1, A1, e1, ds1, B1, K1, ⟨n1 + 1, fun m k hm hk => fuel1 hk _ a A fun k' hk' => h1 m (by omega)⟩, h2⟩

/-! Operations one behind the other. -/
def guardE (ops : Array Oper) (e : Env) (o : Oper) : Option Bool :=
  match o.guard with
  | none => some true
  | some (j, want) => match (ops[j]?).bind (·.dst) with
    | some t => match look e t with
      | some (.bool b) => some (b == want)
      | _ => none
    | none => none

theorem guard_wanted {N : Nat} {ds : List Deferred} {ops : Array Oper} {e : Env} {o : Oper} {b : Bool} {a : Act} (ha : AgE N ds e a) (h : guardE ops e o = some b) : wantedA ops a o = some b := by
  unfold guardE at h
  unfold wantedA
  split at h
  · next hg => rw [hg]; exact h
  · next j want hg =>
    rw [hg]
    split at h
    · next t ht =>
      simp only [ht]
      split at h
      · next c hc => rw [ha.tm _ _ hc]; exact h
      · cases h
    · cases h

theorem ws_nil {N : Nat} {ops : Array Oper} {e : Env} {ds : List Deferred} {B : Hp} {K : Kn} {Q : PQ} (h : Q .normal e ds B K) : WS P N ops [] e ds B K Q :=
  fun a A Kf ha hs => ⟨.normal, a, A, e, ds, B, K, ⟨0, fun _ _ => rfl⟩, ha, hs, rfl, BLe.refl B, h⟩

def opK (P : Program) (N : Nat) (ops : Array Oper) (d : Option Tmp) (rest : List Oper) (e : Env) (ds : List Deferred) (Q : PQ) : OR → Hp → Kn → Prop := fun r B K => match r with
  | .val v => WS P N ops rest (envPut d v e) ds B K Q
  | .pan ch => Q (.panic ch) e ds B K
  | .defer x => WS P N ops rest (envPut d undef e) (x :: ds) B K Q

theorem opK_v {N : Nat} {ops : Array Oper} {d : Tmp} {rest : List Oper} {e : Env} {ds : List Deferred} {Q : PQ} {v : Value} {B : Hp} {K : Kn} (h : WS P N ops rest ((d, v) :: e) ds B K Q) : opK P N ops (some d) rest e ds Q (.val v) B K := h
theorem opK_n {N : Nat} {ops : Array Oper} {rest : List Oper} {e : Env} {ds : List Deferred} {Q : PQ} {v : Value} {B : Hp} {K : Kn} (h : WS P N ops rest e ds B K Q) : opK P N ops none rest e ds Q (.val v) B K := h
theorem opK_p {N : Nat} {ops : Array Oper} {d : Option Tmp} {rest : List Oper} {e : Env} {ds : List Deferred} {Q : PQ} {ch : List PanicEntry} {B : Hp} {K : Kn} (h : Q (.panic ch) e ds B K) : opK P N ops d rest e ds Q (.pan ch) B K := h

theorem ws_op {N : Nat} {ops : Array Oper} {o : Oper} {rest : List Oper} {e : Env} {ds : List Deferred} {B : Hp} {K : Kn} {Q : PQ} (hg : guardE ops e o = some true) (hd : dstOk N o.dst = true)
    (h : WO P o e B K (opK P N ops o.dst rest e ds Q)) : WS P N ops (o :: rest) e ds B K Q := by
  intro a A Kf ha hs
  obtain ⟨r, A1, B1, K1, ⟨n1, h1⟩, h2, h3, h4, h5⟩ := h _ A Kf (ha.evOk o) hs
  cases r with
  | val v =>
    obtain ⟨a', hp, ha'⟩ := ha.put' hd v
    obtain ⟨z, a2, A2, e2, ds2, B2, K2, ⟨n2, g1⟩, g2, g3, g4, g5, g6⟩ := (show WS P N ops rest (envPut o.dst v e) ds B1 K1 Q from h5) a' A1 Kf ha' h2
    refine ⟨z, a2, A2, e2, ds2, B2, K2, ⟨n1 + n2, fun m hm => ?_⟩, g2, g3, g4.trans h3, h4.trans g5, g6⟩
    unfold aSeq
    rw [guard_wanted ha hg]
    simp only [h1 m (by omega), hp]
    exact g1 m (by omega)
  | pan ch =>
    refine ⟨.panic ch, a, A1, e, ds, B1, K1, ⟨n1, fun m hm => ?_⟩, ha, h2, h3, h4, h5⟩
    unfold aSeq
    rw [guard_wanted ha hg]
    simp only [h1 m hm]
  | defer x =>
    have hax : AgE N (x :: ds) e { n := a.n, tm := a.tm, defers := x :: a.defers } := ⟨ha.n, by simp [ha.ds], ha.tm⟩
    obtain ⟨a', hp, ha'⟩ := hax.put' hd undef
    obtain ⟨z, a2, A2, e2, ds2, B2, K2, ⟨n2, g1⟩, g2, g3, g4, g5, g6⟩ := (show WS P N ops rest (envPut o.dst undef e) (x :: ds) B1 K1 Q from h5) a' A1 Kf ha' h2
    refine ⟨z, a2, A2, e2, ds2, B2, K2, ⟨n1 + n2, fun m hm => ?_⟩, g2, g3, g4.trans h3, h4.trans g5, g6⟩
    unfold aSeq
    rw [guard_wanted ha hg]
    simp only [h1 m (by omega)]
    try rw [hp]
    exact g1 m (by omega)

theorem ws_unw {N : Nat} {ops : Array Oper} {o : Oper} {d : Tmp} {rest : List Oper} {e : Env} {ds : List Deferred} {B : Hp} {K : Kn} {Q : PQ} (hg : guardE ops e o = some false) (hd : o.dst = some d) (hN : dstOk N (some d) = true)
    (h : WS P N ops rest ((d, undef) :: e) ds B K Q) : WS P N ops (o :: rest) e ds B K Q := by
  intro a A Kf ha hs
  obtain ⟨a', hp, ha'⟩ := ha.put' hN undef
  obtain ⟨z, a2, A2, e2, ds2, B2, K2, ⟨n2, g1⟩, g⟩ := h a' A Kf ha' hs
  refine ⟨z, a2, A2, e2, ds2, B2, K2, ⟨n2, fun m hm => ?_⟩, g⟩
  unfold aSeq
  rw [guard_wanted ha hg]
  simp only [hd, hp]
  exact g1 m hm
theorem ws_unwanted {N : Nat} {ops : Array Oper} {o : Oper} {rest : List Oper} {e : Env} {ds : List Deferred} {B : Hp} {K : Kn} {Q : PQ} (hg : guardE ops e o = some false) (hd : dstOk N o.dst = true)
    (h : WS P N ops rest (envPut o.dst undef e) ds B K Q) : WS P N ops (o :: rest) e ds B K Q := by
  intro a A Kf ha hs
  obtain ⟨a', hp, ha'⟩ := ha.put' hd undef
  obtain ⟨z, a2, A2, e2, ds2, B2, K2, ⟨n2, g1⟩, g⟩ := h a' A Kf ha' hs
  refine ⟨z, a2, A2, e2, ds2, B2, K2, ⟨n2, fun m hm => ?_⟩, g⟩
  unfold aSeq
  rw [guard_wanted ha hg]
  simp only [hp]
  exact g1 m hm

/-- By what a slot holds: yes, or no. -/
theorem ws_split {N : Nat} {ops : Array Oper} {rest : List Oper} {e : Env} {ds : List Deferred} {B : Hp} {K : Kn} {Q : PQ} (t : Nat) {b : Bool} (hl : look e t = some (.bool b))
    (h1 : b = true → WS P N ops rest ((t, .bool true) :: e) ds B K Q) (h2 : b = false → WS P N ops rest ((t, .bool false) :: e) ds B K Q) : WS P N ops rest e ds B K Q := by
  have up : ∀ c, b = c → ∀ a, AgE N ds e a → AgE N ds ((t, .bool c) :: e) a := fun c hc a ha => ⟨ha.n, ha.ds, fun s v hv => by
    unfold look at hv
    cases hb : Nat.beq t s with
    | true => rw [hb] at hv; cases hv; rw [← Nat.eq_of_beq_eq_true hb, ← hc]; exact ha.tm _ _ hl
    | false => rw [hb] at hv; exact ha.tm _ _ hv⟩
  cases hb : b with
  | true => exact fun a A Kf ha hs => h1 hb a A Kf (up _ hb a ha) hs
  | false => exact fun a A Kf ha hs => h2 hb a A Kf (up _ hb a ha) hs

theorem ws_gsplit {N : Nat} {ops : Array Oper} {o : Oper} {rest : List Oper} {e : Env} {ds : List Deferred} {B : Hp} {K : Kn} {Q : PQ} {j t : Nat} {want : Bool} {p : Prop} [Decidable p] (hg : o.guard = some (j, want)) (ht : (ops[j]?).bind (·.dst) = some t) (hl : look e t = some (.bool (decide p)))
    (h1 : p → WS P N ops (o :: rest) ((t, .bool true) :: e) ds B K Q) (h2 : ¬p → WS P N ops (o :: rest) ((t, .bool false) :: e) ds B K Q) : WS P N ops (o :: rest) e ds B K Q :=
  ws_split t hl (fun h => h1 (of_decide_eq_true h)) (fun h => h2 (of_decide_eq_false h))
theorem ws_less {N : Nat} {ops : Array Oper} {rest : List Oper} {e e' : Env} {ds : List Deferred} {B : Hp} {K : Kn} {Q : PQ} (hh : Has e e') (h : WS P N ops rest e' ds B K Q) : WS P N ops rest e ds B K Q :=
  fun a A Kf ha hs => h a A Kf (ha.less hh) hs
theorem ws_perm {N : Nat} {ops : Array Oper} {rest : List Oper} {e : Env} {ds : List Deferred} {B : Hp} {K K' : Kn} {Q : PQ} (hp : K.Perm K') (h : WS P N ops rest e ds B K' Q) : WS P N ops rest e ds B K Q :=
  fun a A Kf ha hs => h a A Kf ha (hs.perm (perm_frame hp))

/-! Functions. -/
def argEnv : Nat → List Value → Env
  | _, [] => []
  | i, v :: vs => (i, v) :: argEnv (i + 1) vs

theorem argEnv_get : ∀ (l : List Value) (i t : Nat) (v : Value), look (argEnv i l) t = some v → (T.nil.setFrom i l).get t = some v := by
  have low : ∀ (l : List Value) (i t : Nat) (v : Value), look (argEnv i l) t = some v → i ≤ t ∧ l[t - i]? = some v := by
    intro l
    induction l with
    | nil => intro i t v h; cases h
    | cons x l ih =>
      intro i t v h
      unfold argEnv look at h
      cases hb : Nat.beq i t with
      | true => rw [hb] at h; cases h; have := Nat.eq_of_beq_eq_true hb; subst this; simp
      | false =>
        rw [hb] at h
        obtain ⟨h1, h2⟩ := ih (i + 1) t v h
        refine ⟨by omega, ?_⟩
        rw [show t - i = (t - (i + 1)) + 1 by omega, List.getElem?_cons_succ]
        exact h2
  intro l i t v h
  obtain ⟨h1, h2⟩ := low l i t v h
  rw [T.get_setFrom, if_pos h1, h2]

def resE (P : Program) (e : Env) (B : Hp) (K : Kn) : List ResultVar → List Value → Prop
  | [], vs => vs = []
  | .tmp t :: rs, vs => ∃ v ws, look e t = some v ∧ resE P e B K rs ws ∧ vs = v :: ws
  | .cell x t :: rs, vs => ∃ p v ws, look e x = some p ∧ WR P t p B K v ∧ resE P e B K rs ws ∧ vs = v :: ws

theorem resE_ok {N : Nat} {ds : List Deferred} {e : Env} {B : Hp} {K Kf : Kn} {a : Act} {A : H} (ha : AgE N ds e a) (hs : St1 B (K ++ Kf) A) : ∀ {rs : List ResultVar} {vs : List Value}, resE P e B K rs vs → aResults P a A rs = some vs
  | [], vs, h => by cases h; rfl
  | .tmp t :: rs, vs, h => by
    obtain ⟨v, ws, h1, h2, rfl⟩ := h
    simp only [aResults, ha.tm _ _ h1, resE_ok ha hs h2]
  | .cell x t :: rs, vs, h => by
    obtain ⟨p, v, ws, h1, h2, h3, rfl⟩ := h
    simp only [aResults, ha.tm _ _ h1, h2 A Kf hs, resE_ok ha hs h3]

def endK (P : Program) (rs : List ResultVar) (Q : AEnd → Hp → Kn → Prop) : PQ := fun x e ds B K => match x with
  | .normal | .ret => ds = [] ∧ ∃ vs, resE P e B K rs vs ∧ Q (.ret (tupled vs)) B K
  | .panic ch => ds = [] ∧ Q (.pan ch) B K
  | _ => False

theorem endK_r {rs : List ResultVar} {Q : AEnd → Hp → Kn → Prop} {e : Env} {B : Hp} {K : Kn} (vs : List Value) (h1 : resE P e B K rs vs) (h2 : Q (.ret (tupled vs)) B K) : endK P rs Q .ret e [] B K := ⟨rfl, vs, h1, h2⟩
theorem endK_p {rs : List ResultVar} {Q : AEnd → Hp → Kn → Prop} {e : Env} {B : Hp} {K : Kn} {ch : List PanicEntry} (h2 : Q (.pan ch) B K) : endK P rs Q (.panic ch) e [] B K := ⟨rfl, h2⟩

theorem ends_fn {f : FuncId} {fn : Func} {c : Code} {args : List Value} {B : Hp} {K : Kn} {Q : AEnd → Hp → Kn → Prop} (N : Nat) (e : Env) (rs : List ResultVar) (hf : P.funcs[f]? = some fn) (hb : fn.body = some c) (hn : (fn.name != "runtime.NumGoroutine" && !heads.contains fn.name) = true)
    (hN : max args.length fn.ntmps = N) (he : argEnv 0 args = e) (hrs : fn.results.toList = rs) (h : WC P N c e [] B K (endK P rs Q)) : Does P f args B K Q := by
  subst hN he hrs
  intro A Kf hs
  have hn1 : (fn.name == "runtime.NumGoroutine") = false := by
    have := (Bool.and_eq_true_iff.1 hn).1
    simpa [bne] using this
  have hn2 : heads.contains fn.name = false := by
    have := (Bool.and_eq_true_iff.1 hn).2
    simpa using this
  have hfo : funOf P f = some (fn, c) := by simp only [funOf, hf, hb, hn1]; rfl
  have ha : AgE (max args.length fn.ntmps) [] (argEnv 0 args) (initAct fn args) := ⟨rfl, rfl, fun t v hv => argEnv_get args 0 t v hv⟩
  obtain ⟨x, a1, A1, e1, ds1, B1, K1, ⟨n1, h1⟩, h2, h3, h4, h5, h6⟩ := h _ A Kf ha hs
  have run : ∀ (r : AEnd × H), (∀ m, (match (some (x, a1, A1) : Option (AExit × Act × H)) with
      | some (.normal, a, A') => aLeave P (aDeferred P eqvC (aS P m) m) fn a a.defers .returning A'
      | some (.ret, a, A') => aLeave P (aDeferred P eqvC (aS P m) m) fn a a.defers .returning A'
      | some (.panic ch, a, A') => aLeave P (aDeferred P eqvC (aS P m) m) fn a a.defers (.panicking ch) A'
      | _ => none) = some r) → ∃ n, ∀ m, n ≤ m → aS P m f args A = some r := by
    intro r hr
    refine ⟨n1 + 1, fun m hm => ?_⟩
    obtain ⟨m', rfl⟩ : ∃ m', m = m' + 1 := ⟨m - 1, by omega⟩
    rw [aS_body hf hn2]
    unfold aBody
    rw [hfo]
    simp only
    rw [h1 m' m' (by omega) (by omega)]
    exact hr m'
  cases x with
  | normal =>
    obtain ⟨rfl, vs, hr, hq⟩ := h6
    refine ⟨.ret (tupled vs), A1, B1, K1, run _ fun m => ?_, h3, h4, h5, hq⟩
    simp only [h2.ds, aLeave, resE_ok h2 h3 hr, Option.map_some]
  | ret =>
    obtain ⟨rfl, vs, hr, hq⟩ := h6
    refine ⟨.ret (tupled vs), A1, B1, K1, run _ fun m => ?_, h3, h4, h5, hq⟩
    simp only [h2.ds, aLeave, resE_ok h2 h3 hr, Option.map_some]
  | panic ch =>
    obtain ⟨rfl, hq⟩ := h6
    refine ⟨.pan ch, A1, B1, K1, run _ fun m => ?_, h3, h4, h5, hq⟩
    simp only [h2.ds, aLeave]
  | exit i => exact absurd h6 id
  | goto l => exact absurd h6 id

/-- A head. -/
theorem does_head {f : FuncId} {B : Hp} {K : Kn} (h0 : (funOf P f).isSome) (h1 : ∃ fn, P.funcs[f]? = some fn ∧ heads.contains fn.name = true) (h : ∀ A Kf, St1 B (K ++ Kf) A → SndTrue P f A) : Does P f [] B K (fun r B' K' => K' = K ∧ B' = B ∧ r = .ret (.bool true)) := by
  intro A Kf hs
  refine ⟨.ret (.bool true), A, B, K, ⟨1, fun m hm => ?_⟩, hs, rfl, BLe.refl B, rfl, rfl, rfl⟩
  obtain ⟨m', rfl⟩ : ∃ m', m = m' + 1 := ⟨m - 1, by omega⟩
  unfold aS aCallK
  have : KS P f [] A = some (.ret (.bool true), A) := if_pos ⟨h0, h1, rfl, h A Kf hs⟩
  rw [this]
/-- What is left of one's own is forgotten. -/
theorem Does.drop {f : FuncId} {args : List Value} {B : Hp} {K : Kn} {Q : AEnd → Hp → Prop} (h : Does P f args B K (fun r B' _ => Q r B')) : Does P f args B K (fun r B' K' => K' = [] ∧ Q r B') := by
  intro A Kf hs
  obtain ⟨r, A', B', K', h1, h2, h3, h4, h5⟩ := h A Kf hs
  exact ⟨r, A', B', [], h1, ⟨h2.base, fun b x hb => h2.at_ b x (List.mem_append_right _ hb), fun b hb => h2.rsv b (List.mem_append_right _ hb), fun b hb => h2.low b (by unfold keys at hb ⊢; rw [List.filterMap_append]; exact List.mem_append_right _ hb),
    h2.nod.sublist ((List.sublist_append_right K' Kf).filterMap _), h2.ro, h2.fresh⟩, h3, h4, rfl, h5⟩
end
end Go.Ab
