import Derived.Test.YteoncjaiigfpaaaGreatDoorAb1
import Derived.Laws.StructEq
set_option linter.all false
namespace Go.Ab

def EvR (ρ : Rho) (ev : Operand → Option Value) (e : Operand → Value) : Prop := ∀ x v, ev x = some v → VR ρ v (e x)

inductive CR (ρ : Rho) : List PanicEntry → List PanicEntry → Prop
  | nil : CR ρ [] []
  | cons (v v' : Value) (r g : Bool) (rest rest' : List PanicEntry) : VR ρ v v' → CR ρ rest rest' →
      CR ρ ({ v := v, recovered := r, goexit := g } :: rest) ({ v := v', recovered := r, goexit := g } :: rest')

theorem CR.mono {ρ ρ' : Rho} (hs : Sub ρ ρ') {c c' : List PanicEntry} (h : CR ρ c c') : CR ρ' c c' := by
  induction h with
  | nil => exact .nil
  | cons v v' r g rest rest' h1 _ ih => exact .cons _ _ _ _ _ _ (h1.mono hs) ih

theorem CR.one {ρ : Rho} {v v' : Value} (h : VR ρ v v') : CR ρ [{ v := v, recovered := false }] [{ v := v', recovered := false }] := .cons _ _ _ _ _ _ h .nil

theorem CR.append {ρ : Rho} {a a' b b' : List PanicEntry} (h : CR ρ a a') (k : CR ρ b b') : CR ρ (a ++ b) (a' ++ b') := by
  induction h with
  | nil => exact k
  | cons v v' r g rest rest' h1 _ ih => exact .cons _ _ _ _ _ _ h1 ih

section facts
variable {P : Program}

theorem sz_info {t n : Nat} (h : szOf P t = some n) : ∃ i, P.info? t = some i ∧ i.size = n := by
  unfold szOf at h
  cases hi : P.info? t with
  | none => simp [hi] at h
  | some i => exact ⟨i, rfl, by simpa [hi] using h⟩

theorem run_info {t : TypeId} {i : TypeInfo} (h : P.info? t = some i) (w : World) : (typeInfo t).run P w = .ok i w := by
  simp [typeInfo, h]

theorem run_sz {t n : Nat} (h : szOf P t = some n) (w : World) : (sizeOf t).run P w = .ok n w := by
  obtain ⟨i, hi, hn⟩ := sz_info h
  simp [sizeOf, run_info hi, hn]

theorem run_zero {t : TypeId} {z : Value} (h : zeroOf P t = some z) (w : World) : (zeroValue t).run P w = .ok z w ∧ plain z = true := by
  unfold zeroOf at h
  split at h
  · next i hi =>
    split at h
    · next z' hz =>
      split at h
      · next hp => cases h; exact ⟨by simp [zeroValue, run_info hi, hz], hp⟩
      · cases h
    · cases h
  · cases h

theorem run_agg? {t : TypeId} {d : TypeDesc} (h : P.underlying t = some d) (w : World) : (isAgg t).run P w = .ok (isAggD d) w := by
  cases d <;> simp [isAgg, run_underlying h, isAggD]

theorem run_part {ρ : Rho} {t : TypeId} {cs : List Value} {cs' : Array Value} {off : Nat} {v : Value} (h : aPart P t cs off = some v) (hv : VRs ρ cs cs'.toList) (w : World) :
    ∃ v', (part t cs' off).run P w = .ok v' w ∧ VR ρ v v' := by
  unfold aPart at h
  split at h
  · next d n hd hn =>
    split at h
    · next ha =>
      cases h
      refine ⟨.agg (cs'.extract off (off + n)), ?_, .agg _ _ ?_⟩
      · simp [part, run_agg? hd, ha, run_sz hn]
      · have : (cs'.extract off (off + n)).toList = (cs'.toList.drop off).take n := by simp
        rw [this]
        exact (hv.drop off).take n
    · next ha =>
      obtain ⟨v', h1, h2⟩ := hv.get h
      refine ⟨v', ?_, h2⟩
      have h1' : cs'[off]? = some v' := by simpa using h1
      simp [part, run_agg? hd, ha, h1']
  · cases h

theorem evs_sound {ρ : Rho} {ev : Operand → Option Value} {e : Operand → Value} (he : EvR ρ ev e) : ∀ {l : List Operand} {vs : List Value}, evs ev l = some vs → VRs ρ vs (l.map e)
  | [], vs, h => by cases h; exact .nil
  | x :: xs, vs, h => by
    unfold evs at h
    split at h
    · next v ws h1 h2 => cases h; exact .cons _ _ _ _ (he _ _ h1) (evs_sound he h2)
    · cases h

theorem evs_arr {ρ : Rho} {ev : Operand → Option Value} {e : Operand → Value} (he : EvR ρ ev e) {l : Array Operand} {vs : List Value} (h : evs ev l.toList = some vs) : VRs ρ vs (l.map e).toList := by
  rw [Array.toList_map]; exact evs_sound he h

inductive PVR (ρ : Rho) : List (Nat × Value) → List (Nat × Value) → Prop
  | nil : PVR ρ [] []
  | cons (i : Nat) (v v' : Value) (l l' : List (Nat × Value)) : VR ρ v v' → PVR ρ l l' → PVR ρ ((i, v) :: l) ((i, v') :: l')

theorem evParts_sound {ρ : Rho} {ev : Operand → Option Value} {e : Operand → Value} (he : EvR ρ ev e) : ∀ {l : List (Nat × Operand)} {vs : List (Nat × Value)}, evParts ev l = some vs → PVR ρ vs (l.map fun (i, x) => (i, e x))
  | [], vs, h => by cases h; exact .nil
  | (i, x) :: xs, vs, h => by
    unfold evParts at h
    split at h
    · next v ws h1 h2 => cases h; exact .cons _ _ _ _ _ (he _ _ h1) (evParts_sound he h2)
    · cases h

theorem VRs.setB {ρ : Rho} {a a' : Array Value} (h : VRs ρ a.toList a'.toList) (i : Nat) {v v' : Value} (hv : VR ρ v v') : VRs ρ (a.setIfInBounds i v).toList (a'.setIfInBounds i v').toList := by
  have hl : a.size = a'.size := by simpa using h.length
  refine VRs.of_get (by simp; exact hl) fun j x hx => ?_
  rw [Array.getElem?_toList] at hx ⊢
  rcases Nat.decEq i j with hij | hij
  · rw [Array.getElem?_setIfInBounds_ne hij] at hx ⊢
    exact h.get (by simpa using hx) |>.imp fun y hy => ⟨by simpa using hy.1, hy.2⟩
  · subst hij
    by_cases hlt : i < a.size
    · rw [Array.getElem?_setIfInBounds_self_of_lt hlt] at hx
      cases hx
      exact ⟨v', by rw [Array.getElem?_setIfInBounds_self_of_lt (by omega)], hv⟩
    · have : (a.setIfInBounds i v)[i]? = none := by simp; omega
      rw [this] at hx; cases hx

theorem fold_sound {ρ : Rho} (off : Nat) : ∀ (l l' : List Value) (k : Nat) (a a' : Array Value), VRs ρ l l' → VRs ρ a.toList a'.toList →
    VRs ρ ((l.zipIdx k).foldl (fun cs (c, j) => cs.setIfInBounds (off + j) c) a).toList ((l'.zipIdx k).foldl (fun cs (c, j) => cs.setIfInBounds (off + j) c) a').toList := by
  intro l
  induction l with
  | nil => intro l' k a a' h ha; cases h; exact ha
  | cons x xs ih =>
    intro l' k a a' h ha
    cases h with
    | cons _ y _ ys h1 h2 => simp only [List.zipIdx_cons, List.foldl_cons]; exact ih _ _ _ _ h2 (ha.setB _ h1)

theorem fill_sound {ρ : Rho} {place : Nat → Option (Nat × Nat)} : ∀ {ps ps' : List (Nat × Value)} {cells cells' r : Array Value}, PVR ρ ps ps' → VRs ρ cells.toList cells'.toList →
    Instr.fill place cells ps = some r → ∃ r', Instr.fill place cells' ps' = some r' ∧ VRs ρ r.toList r'.toList := by
  intro ps
  induction ps with
  | nil => intro ps' cells cells' r hp hc h; cases hp; simp only [Instr.fill] at h; cases h; exact ⟨cells', rfl, hc⟩
  | cons p ps ih =>
    intro ps' cells cells' r hp hc h
    cases hp with
    | cons i v v' _ l' hv hps =>
      simp only [Instr.fill] at h ⊢
      split at h
      · cases h
      · next off size hpl =>
        have e1 := hv.cells_size
        have e2 : cells.size = cells'.size := by simpa using hc.length
        rw [← e1, ← e2]
        split at h
        · cases h
        · next hcond =>
          rw [if_neg hcond]
          refine ih hps ?_ h
          rw [← Array.foldl_toList, ← Array.foldl_toList, Array.toList_zipIdx, Array.toList_zipIdx]
          exact fold_sound off _ _ 0 _ _ hv.cells hc

/-- An operation that looks at no memory, told by what it gives. -/
def LightOut (P : Program) (ρ : Rho) (s : Sem Next) (w : World) : OR → Prop
  | .val v => ∃ v', s.run P w = .ok (.value v') w ∧ VR ρ v v'
  | .pan ch => ∃ x', s.run P w = .halt (.panic x') w ∧ CR ρ ch [{ v := x', recovered := false }]
  | .defer _ => False

/-- The same of a value's. -/
def ValOut (P : Program) (ρ : Rho) (s : Sem Value) (w : World) : OR → Prop
  | .val v => ∃ v', s.run P w = .ok v' w ∧ VR ρ v v'
  | .pan ch => ∃ x', s.run P w = .halt (.panic x') w ∧ CR ρ ch [{ v := x', recovered := false }]
  | .defer _ => False

theorem ValOut.light {ρ : Rho} {s : Sem Value} {w : World} {r : OR} (h : ValOut P ρ s w r) : LightOut P ρ (do pure (Next.value (← s))) w r := by
  cases r with
  | val v => obtain ⟨v', h1, h2⟩ := h; exact ⟨v', by simp [h1], h2⟩
  | pan ch => obtain ⟨x', h1, h2⟩ := h; exact ⟨x', by simp [h1], h2⟩
  | defer d => exact h.elim

theorem ValOut.same {ρ : Rho} {s : Sem Value} {w : World} {v : Value} (h : s.run P w = .ok v w) (hv : VR ρ v v) : ValOut P ρ s w (.val v) := ⟨v, h, hv⟩

theorem run_panicErr {α : Type} (m : String) (w : World) : (runtimePanic (.error m) : Sem α).run P w = .halt (.panic (.iface P.rt.errorString (strVal m))) w := by
  simp [runtimePanic]

theorem run_nilDeref {α : Type} (w : World) : (runtimePanic .nilDeref : Sem α).run P w = .halt (.panic (.iface P.rt.errorString (strVal "invalid memory address or nil pointer dereference"))) w := by
  simp [runtimePanic]

theorem aInt_sound {ρ : Rho} {op : BinOp} {k : IntKind} {a b : Int} {r : OR} (h : aInt P op k a b = some r) (h1 : op ≠ .shl) (h2 : op ≠ .shr) (t : TypeId) (w : World) :
    ValOut P ρ (binOp op t (.int k a) (.int k b)) w r := by
  have pz : ∀ (hb : b = 0) (o : BinOp), ValOut P ρ (Op.intDiv o k a b) w (pan1 (.iface P.rt.errorString (strVal "integer divide by zero"))) := by
    intro hb o
    subst hb
    refine ⟨_, by simp only [Op.intDiv, if_true]; exact run_panicErr _ _, CR.one (.iface _ _ _ (.string _))⟩
  cases op <;> simp only [aInt, boolV] at h <;> first
    | (cases h; done)
    | exact absurd rfl h1
    | exact absurd rfl h2
    | (split at h <;> cases h
       · next hb => simpa [binOp] using pz hb _
       · next hb => exact ValOut.same (by simp [binOp, Op.intDiv, hb]) (.int _ _))
    | (cases h; exact ValOut.same (by simp [binOp, Op.intArith, Op.intCmp, Op.intBits]) (by constructor))

theorem aEq_sound : ∀ (d : Nat) (t : TypeId) (x y : Value) (r : Bool), aEq P d t x y = some r → ∀ {ρ : Rho} {x' y' : Value}, VR ρ x x' → VR ρ y y' → ∀ (w : World),
    (Op.equalIn d t x' y').run P w = .ok r w := by
  intro d
  induction d with
  | zero => intro t x y r h; simp [aEq] at h
  | succ d ih =>
    intro t x y r h ρ x' y' hx hy w
    unfold aEq at h
    split at h
    · next k0 k a k' b hu =>
      cases hx; cases hy
      split at h
      · next e => cases h; subst e; exact run_equalIn_int w d t _ _ a b hu
      · cases h
    · next a b hu => cases hx; cases hy; cases h; exact run_equalIn_bool' w d t _ _ hu
    · next a b hu => cases hx; cases hy; cases h; exact run_equalIn_string w d t _ _ hu
    · next fs xs ys hu =>
      cases hx with
      | agg _ xs' hx =>
      cases hy with
      | agg _ ys' hy =>
      split at h
      · cases h
      · next hs =>
        have hf : P.fieldsOf t = fs := by simp [Program.fieldsOf, hu]
        rw [run_equalIn_struct w d t xs' ys' (by rw [hf]; exact hu) (by simpa using hs), hf]
        generalize fs.toList = l at h
        clear hu hf
        induction l with
        | nil => simp only [aEqFields] at h; cases h; rfl
        | cons f l ihl =>
          simp only [aEqFields] at h
          simp only [Op.eqFields]
          split at h
          · next hn =>
            rw [if_pos hn]
            split at h
            · next a b ha hb =>
              obtain ⟨a', ha1, ha2⟩ := run_part ha hx w
              obtain ⟨b', hb1, hb2⟩ := run_part hb hy w
              simp only [Sem.run_bind, ha1, hb1, Result.andThen_ok]
              split at h
              · next he => rw [ih _ _ _ _ he ha2 hb2 w]; simpa using ihl h
              · next he => rw [ih _ _ _ _ he ha2 hb2 w]; cases h; simp
              · cases h
            · cases h
          · next hn => rw [if_neg hn]; exact ihl h
    · cases h

set_option maxHeartbeats 4000000 in
theorem nilEq_sound {ρ : Rho} {t : TypeId} {d : TypeDesc} (hd : P.underlying t = some d) {a b : Value} {r : Bool} (h : nilEq d a b = some r) {a' b' : Value} (ha : VR ρ a a') (hb : VR ρ b b') (w : World) (n : Nat) :
    (Op.equalIn (n + 1) t a' b').run P w = .ok r w ∧ (∀ op x y, (eqGuard op t x y a' b').run P w = .ok () w) ∧
      binOp .eql t a' b' = (do pure (.bool (← Op.equal t a' b'))) ∧ binOp .neq t a' b' = (do pure (.bool (!(← Op.equal t a' b')))) := by
  unfold nilEq at h
  split at h <;> first
    | (cases h; done)
    | (cases ha <;> cases hb <;> cases h <;> (refine ⟨by simp [Op.equalIn, run_underlying hd], fun op x y => by cases op <;> simp [eqGuard], ?_, ?_⟩ <;> simp [binOp]))

theorem aEql_sound {ρ : Rho} {t : TypeId} {x y : Operand} {a b : Value} {r : Bool} (h : aEql P t x y a b = some r) {a' b' : Value} (ha : VR ρ a a') (hb : VR ρ b b') (w : World) (neg : Bool) :
    (do eqGuard (if neg then .neq else .eql) t x y a' b'; binOp (if neg then .neq else .eql) t a' b').run P w = .ok (.bool (if neg then !r else r)) w := by
  unfold aEql at h
  split at h
  · cases h
  · next d hd =>
    split at h
    · next s1 s2 => cases ha; cases hb; cases h; cases neg <;> simp [eqGuard, binOp, Op.stringOp]
    · split at h
      · split at h
        · next hc =>
          cases ha; cases hb; cases h
          have he : (Op.equal t .nilIface .nilIface).run P w = .ok true w := by
            show (Op.equalIn (9999 + 1) t .nilIface .nilIface).run P w = _
            generalize 9999 = n
            simp [Op.equalIn, run_underlying hd]
          cases x <;> cases y <;> first
            | (simp [Ab.isConst] at hc; done)
            | (cases neg <;> simp [eqGuard, binOp, he])
        · cases h
      · cases h
    · next xs ys =>
      split at h
      · cases h
      · next hg =>
        have hg' : P.eqGuardType P.depth t = false := by simpa using hg
        have he := aEq_sound _ _ _ _ _ h ha hb w
        cases ha with
        | agg _ xs' hx =>
        cases hb with
        | agg _ ys' hy =>
        cases neg
        · have h1 := run_eqGuard_agg (P := P) w .eql t x y xs' ys' hg'
          have h2 := run_eql_struct (P := P) w t xs' ys'
          simp only [Bool.false_eq_true, if_false, Sem.run_bind, h1, Result.andThen_ok, h2, he]
        · have h1 := run_eqGuard_agg (P := P) w .neq t x y xs' ys' hg'
          have h2 := run_neq_struct (P := P) w t xs' ys'
          simp only [if_true, Sem.run_bind, h1, Result.andThen_ok, h2, he]
    · obtain ⟨h1, h2, h3, h4⟩ := nilEq_sound hd h ha hb w 9999
      have he : (Op.equal t a' b').run P w = .ok r w := h1
      cases neg
      · simp [h2, h3, he]
      · simp [h2, h4, he]

end facts

end Go.Ab

namespace Go.Ab
section light
variable {P : Program}

theorem aBin_sound {ρ : Rho} {op : BinOp} {t : TypeId} {x y : Operand} {a b : Value} {r : OR} (h : aBin P op t x y a b = some r) {a' b' : Value} (ha : VR ρ a a') (hb : VR ρ b b') (w : World) :
    ValOut P ρ (do eqGuard op t x y a' b'; binOp op t a' b') w r := by
  have guard : ∀ k n k' m, (eqGuard op t x y (.int k n) (.int k' m)).run P w = .ok () w := by
    intro k n k' m; cases op <;> simp [eqGuard]
  have lift : ∀ {k n k' m r}, ValOut P ρ (binOp op t (.int k n) (.int k' m)) w r → ValOut P ρ (do eqGuard op t x y (.int k n) (.int k' m); binOp op t (.int k n) (.int k' m)) w r := by
    intro k n k' m r h
    cases r with
    | val v => obtain ⟨v', h1, h2⟩ := h; exact ⟨v', by simp [guard, h1], h2⟩
    | pan ch => obtain ⟨v', h1, h2⟩ := h; exact ⟨v', by simp [guard, h1], h2⟩
    | defer d => exact h.elim
  unfold aBin at h
  split at h
  · next k n k' m =>
    cases ha; cases hb
    refine lift ?_
    split at h
    · split at h
      · cases h
      · next hm => cases h; exact ValOut.same (by simp [binOp, Op.shift, hm]) (.int _ _)
    · split at h
      · cases h
      · next hm => cases h; exact ValOut.same (by simp [binOp, Op.shift, hm]) (.int _ _)
    · next h1 h2 =>
      split at h
      · next e => subst e; exact aInt_sound h h1 h2 t w
      · cases h
  · split at h
    · cases he : aEql P t x y a b with
      | none => simp [he] at h
      | some r' =>
        simp only [he, Option.map_some, Option.some.injEq] at h
        subst h
        exact ⟨_, aEql_sound he ha hb w false, .bool _⟩
    · cases he : aEql P t x y a b with
      | none => simp [he] at h
      | some r' =>
        simp only [he, Option.map_some, Option.some.injEq] at h
        subst h
        exact ⟨_, aEql_sound he ha hb w true, .bool _⟩
    · cases h

theorem map_val {o : Option Value} {r : OR} (h : o.map OR.val = some r) : ∃ v, o = some v ∧ r = .val v := by
  cases o with
  | none => cases h
  | some v => simp at h; exact ⟨v, rfl, h.symm⟩

theorem nilCheck_sound {ρ : Rho} {ev : Operand → Option Value} {e : Operand → Value} (he : EvR ρ ev e) {dst type pos after guard} {x : Operand} {r : OR}
    (h : aLight P ev ⟨dst, .nilCheck x, type, pos, after, guard⟩ = some r) (w : World) : LightOut P ρ (execOp e ⟨dst, .nilCheck x, type, pos, after, guard⟩) w r := by
  simp only [aLight] at h
  have hnil : ∀ {s : Sem Next}, s = runtimePanic .nilDeref → LightOut P ρ s w (nilDeref P) := by
    intro s hs
    subst hs
    exact ⟨_, run_nilDeref w, CR.one (.iface _ _ _ (.string _))⟩
  split at h
  · next hx => cases h; have hv := he _ _ hx; generalize hex : e x = vx at hv; cases hv; exact hnil (by simp [execOp, hex])
  · next hx => cases h; have hv := he _ _ hx; generalize hex : e x = vx at hv; cases hv; exact hnil (by simp [execOp, hex])
  · next hx => cases h; have hv := he _ _ hx; generalize hex : e x = vx at hv; cases hv; exact hnil (by simp [execOp, hex])
  · next f a b hx =>
    cases h
    have hv := he _ _ hx
    generalize hex : e x = vx at hv
    cases hv with
    | func _ _ f' _ c' h1 h2 => exact ⟨.func (.func f) f' c', by simp [execOp, hex], .func _ _ _ _ _ h1 h2⟩
  · next a hx =>
    cases h
    have hv := he _ _ hx
    generalize hex : e x = vx at hv
    cases hv with
    | ptr b off L hL => exact ⟨.pointer (some ⟨L.blk, L.off0 + off, none⟩), by simp [execOp, hex], .ptr b off L hL⟩
  · cases h

theorem fieldAddr_sound {ρ : Rho} {ev : Operand → Option Value} {e : Operand → Value} (he : EvR ρ ev e) {dst type pos after guard} {s : TypeId} {x : Operand} {f : Nat} {r : OR}
    (h : aLight P ev ⟨dst, .fieldAddr s x f, type, pos, after, guard⟩ = some r) (w : World) : LightOut P ρ (execOp e ⟨dst, .fieldAddr s x f, type, pos, after, guard⟩) w r := by
  simp only [aLight] at h
  split at h
  · next fields a hu hx =>
    split at h
    · next fd hf =>
      split at h
      · next n hn =>
        split at h
        · cases h
        · next hc =>
          have hv := he _ _ hx
          generalize hex : e x = vx at hv
          cases hv with
          | ptr b off L hL =>
            cases h
            refine ValOut.light (s := Instr.fieldAt s (e x) f) (r := .val _) ⟨_, ?_, VR.ptr b (off + fd.offset) L hL⟩
            have hn0 : ¬ n = 0 := fun e => hc (.inl e)
            simp [Instr.fieldAt, run_underlying hu, hf, hex, Instr.sureAddr, fieldPlace, run_sz hn, hn0, addr_add, Nat.add_assoc]
      · cases h
    · cases h
  · cases h

theorem indexAddr_sound {ρ : Rho} {ev : Operand → Option Value} {e : Operand → Value} (he : EvR ρ ev e) {dst type pos after guard} {t : TypeId} {x i : Operand} {r : OR}
    (h : aLight P ev ⟨dst, .indexAddr t x i, type, pos, after, guard⟩ = some r) (w : World) : LightOut P ρ (execOp e ⟨dst, .indexAddr t x i, type, pos, after, guard⟩) w r := by
  simp only [aLight] at h
  split at h
  · next el a len cap k n hu hx hi =>
    have hv := he _ _ hx
    have hvi := he _ _ hi
    generalize hex : e x = vx at hv
    generalize hei : e i = vi at hvi
    cases hvi
    split at h
    · next s hs =>
      split at h
      · next hc =>
        cases h
        refine ValOut.light (s := Instr.indexAt t (e x) (e i)) (r := .val _) ?_
        cases hv with
        | sliceEmpty a a' => omega
        | sliceTopEmpty a a' n => omega
        | slice b off len cap L hcap hL =>
          refine ⟨_, ?_, VR.ptr b (off + n.toNat * s) L hL⟩
          simp [Instr.indexAt, asIntOf, run_underlying hu, hex, hei, hc.1, hc.2.1, run_sz hs, addr_add, Nat.add_assoc]
        | sliceTop b off len cap L hL hl hx' =>
          refine ⟨_, ?_, VR.ptr b (off + n.toNat * s) L hL⟩
          simp [Instr.indexAt, asIntOf, run_underlying hu, hex, hei, hc.1, hc.2.1, run_sz hs, addr_add, Nat.add_assoc]
      · cases h
    · cases h
  · next len el a k n hu hx hi =>
    have hv := he _ _ hx
    have hvi := he _ _ hi
    generalize hex : e x = vx at hv
    generalize hei : e i = vi at hvi
    cases hvi
    split at h
    · next s hs =>
      split at h
      · next hc =>
        cases h
        cases hv with
        | ptr b off L hL =>
          refine ValOut.light (s := Instr.indexAt t (e x) (e i)) (r := .val _) ⟨_, ?_, VR.ptr b (off + n.toNat * s) L hL⟩
          simp [Instr.indexAt, Instr.sureAddr, asIntOf, run_underlying hu, hex, hei, hc.1, hc.2.1, run_sz hs, addr_add, Nat.add_assoc]
      · cases h
    · cases h
  · cases h

theorem index_sound {ρ : Rho} {ev : Operand → Option Value} {e : Operand → Value} (he : EvR ρ ev e) {dst type pos after guard} {t : TypeId} {x i : Operand} {r : OR}
    (h : aLight P ev ⟨dst, .index t x i, type, pos, after, guard⟩ = some r) (w : World) : LightOut P ρ (execOp e ⟨dst, .index t x i, type, pos, after, guard⟩) w r := by
  simp only [aLight] at h
  split at h
  · next len el cs k n hu hx hi =>
    have hv := he _ _ hx
    have hvi := he _ _ hi
    generalize hex : e x = vx at hv
    generalize hei : e i = vi at hvi
    cases hvi
    split at h
    · next s hs =>
      split at h
      · next hc =>
        obtain ⟨v, h1, rfl⟩ := map_val h
        cases hv with
        | agg _ cs' hcs =>
          obtain ⟨v', h2, h3⟩ := run_part h1 hcs w
          refine ValOut.light (s := Instr.index t (e x) (e i)) (r := .val _) ⟨v', ?_, h3⟩
          simp [Instr.index, asIntOf, run_underlying hu, hex, hei, hc.1, hc.2, run_sz hs, h2]
      · cases h
    · cases h
  · next s k n hu hx hi =>
    have hv := he _ _ hx
    have hvi := he _ _ hi
    generalize hex : e x = vx at hv
    generalize hei : e i = vi at hvi
    cases hvi
    cases hv
    split at h
    · next hn =>
      split at h
      · next b hb =>
        cases h
        refine ValOut.light (s := Instr.index t (e x) (e i)) (r := .val _) ⟨_, ?_, .int _ _⟩
        simp [Instr.index, asIntOf, run_underlying hu, hex, hei, hn, hb]
      · cases h
    · cases h
  · cases h

theorem simple_sound {ρ : Rho} {ev : Operand → Option Value} {e : Operand → Value} (he : EvR ρ ev e) {o : Oper} {r : OR} (h : aLight P ev o = some r)
    (ho : match o.op with | .move _ | .assign _ | .pick .. | .binOp .. | .unOp .. | .convert .. | .makeInterface .. | .makeFunc .. | .field .. | .extract .. => True | _ => False) (w : World) :
    LightOut P ρ (execOp e o) w r := by
  obtain ⟨dst, op, type, pos, after, guard⟩ := o
  cases op <;> simp only at ho
  case move x =>
    obtain ⟨v, h1, rfl⟩ := map_val h
    exact ⟨_, rfl, he _ _ h1⟩
  case assign x =>
    obtain ⟨v, h1, rfl⟩ := map_val h
    exact ⟨_, rfl, he _ _ h1⟩
  case pick c a b =>
    simp only [aLight] at h
    split at h
    · next hc =>
      obtain ⟨v, h1, rfl⟩ := map_val h
      have hv := he _ _ hc
      generalize hec : e c = vc at hv
      cases hv
      exact ⟨_, by simp [execOp, hec, asBool], he _ _ h1⟩
    · next hc =>
      obtain ⟨v, h1, rfl⟩ := map_val h
      have hv := he _ _ hc
      generalize hec : e c = vc at hv
      cases hv
      exact ⟨_, by simp [execOp, hec, asBool], he _ _ h1⟩
    · cases h
  case binOp op t x y yt =>
    simp only [aLight] at h
    split at h
    · next a b ha hb => exact ValOut.light (aBin_sound h (he _ _ ha) (he _ _ hb) w)
    · cases h
  case unOp op t x =>
    simp only [aLight] at h
    split at h
    · next b hx =>
      have hv := he _ _ hx
      generalize hex : e x = vx at hv
      cases hv
      cases h
      exact ValOut.light (s := Op.unary .not (e x)) (r := .val _) ⟨_, by simp [hex, Op.unary], .bool _⟩
    · next k n hx =>
      have hv := he _ _ hx
      generalize hex : e x = vx at hv
      cases hv
      simp only [aInt] at h
      cases h
      exact ValOut.light (s := Op.unary .neg (e x)) (r := .val _) ⟨_, by simp [hex, Op.unary, Op.intArith], .int _ _⟩
    · cases h
  case convert src dst' x =>
    simp only [aLight] at h
    split at h
    · next d k k' n hs hd hx =>
      have hv := he _ _ hx
      generalize hex : e x = vx at hv
      cases hv
      cases h
      exact ValOut.light (s := convert src dst' (e x)) (r := .val _) ⟨_, by simp [hex, convert, run_underlying hs, run_underlying hd, Conv.intToInt], .int _ _⟩
    · cases h
  case makeInterface t x =>
    simp only [aLight] at h
    split at h
    · cases h
    · next d v hno hd hx =>
      cases h
      refine ValOut.light (s := Instr.makeInterface t (e x)) (r := .val _) ⟨_, ?_, .iface t _ _ (he _ _ hx)⟩
      cases d <;> first | (exact absurd rfl (hno _ )) | simp [Instr.makeInterface, run_underlying hd]
    · cases h
  case makeFunc fn first cap =>
    simp only [aLight] at h
    split at h
    · next f a b h1 h2 =>
      cases h
      exact ValOut.light (s := Instr.makeFunc (.func f) (first.map e) (cap.map e)) (r := .val _) ⟨_, rfl, .func _ _ _ _ _ (evs_arr he h1) (evs_arr he h2)⟩
    · cases h
  case field t x f =>
    simp only [aLight] at h
    split at h
    · next fields cs hu hx =>
      split at h
      · next fd hf =>
        obtain ⟨v, h1, rfl⟩ := map_val h
        have hv := he _ _ hx
        generalize hex : e x = vx at hv
        cases hv with
        | agg _ cs' hcs =>
          obtain ⟨v', h2, h3⟩ := run_part h1 hcs w
          exact ValOut.light (s := Instr.field t (e x) f) (r := .val _) ⟨v', by simp [Instr.field, run_underlying hu, hf, hex, asAgg, h2], h3⟩
      · cases h
    · cases h
  case extract x i =>
    simp only [aLight] at h
    split at h
    · next vs hx =>
      obtain ⟨v, h1, rfl⟩ := map_val h
      have hv := he _ _ hx
      generalize hex : e x = vx at hv
      cases hv with
      | tuple _ vs' hvs =>
        obtain ⟨v', h2, h3⟩ := hvs.get (i := i) (v := v) (by simpa using h1)
        have h2' : vs'[i]? = some v' := by simpa using h2
        exact ValOut.light (s := Instr.extract (e x) i) (r := .val _) ⟨v', by simp [hex, Instr.extract, h2'], h3⟩
    · cases h

theorem num_sound {ρ : Rho} {ev : Operand → Option Value} {e : Operand → Value} (he : EvR ρ ev e) {y : Option Operand} {n : Option Int}
    (h : (match y with | none => some none | some y => match ev y with | some (.int _ n) => some (some n) | _ => none : Option (Option Int)) = some n) :
    (y = none ∧ n = none) ∨ ∃ z k m, y = some z ∧ n = some m ∧ e z = .int k m := by
  cases y with
  | none => simp at h; exact .inl ⟨rfl, h.symm⟩
  | some z =>
    simp only at h
    split at h
    · next k m hz =>
      have hv := he _ _ hz
      generalize hez : e z = vz at hv
      cases hv
      cases h
      exact .inr ⟨z, k, m, rfl, rfl, hez⟩
    · cases h

theorem run_bound {x : Value} {k : IntKind} {i : Int} {y : Nat} (c : BoundsCode) (hx : x = .int k i) (h0 : 0 ≤ i) (h1 : i ≤ y) (w : World) : (Instr.sliceBound x y c).run P w = .ok i.toNat w := by
  subst hx
  simp [Instr.sliceBound, asIntOf, h0, h1]

theorem run_bounds {e : Operand → Value} {lo hi mx : Option Operand} {l h : Int} {m : Nat} {len cap : Nat}
    (hl : (lo = none ∧ l = 0) ∨ ∃ z k, lo = some z ∧ e z = .int k l) (hh : (hi = none ∧ mx = none ∧ h = len) ∨ ∃ z k, hi = some z ∧ e z = .int k h)
    (hm : (mx = none ∧ m = cap) ∨ ∃ z k, mx = some z ∧ e z = .int k m) (h0 : 0 ≤ l) (h1 : l ≤ h) (h2 : h ≤ m) (h3 : m ≤ cap) (w : World) :
    (Instr.sliceBounds true len cap (lo.map e) (hi.map e) (mx.map e)).run P w = .ok (l.toNat, h.toNat, m) w := by
  have hhc : h ≤ cap := by omega
  rcases hm with ⟨rfl, rfl⟩ | ⟨zm, km, rfl, hm⟩ <;> rcases hh with ⟨rfl, hn, rfl⟩ | ⟨zh, kh, rfl, hh⟩ <;> rcases hl with ⟨rfl, rfl⟩ | ⟨zl, kl, rfl, hl⟩ <;>
    first
      | (cases hn; done)
      | skip
  all_goals simp only [Instr.sliceBounds, Option.map_none, Option.map_some, Sem.run_bind, Sem.run_pure, Result.andThen_ok]
  · simp
  · rw [run_bound _ hl h0 (by omega)]; simp
  · rw [run_bound _ hh (by omega) (by omega)]; simp
  · rw [run_bound _ hh (by omega) (by omega)]; simp only [Result.andThen_ok]; rw [run_bound _ hl h0 (by omega)]; simp
  · rw [run_bound _ hm (by omega) (by omega)]; simp only [Result.andThen_ok, Int.toNat_natCast]; rw [run_bound _ hh (by omega) (by omega)]; simp
  · rw [run_bound _ hm (by omega) (by omega)]; simp only [Result.andThen_ok, Int.toNat_natCast]; rw [run_bound _ hh (by omega) (by omega)]; simp only [Result.andThen_ok]; rw [run_bound _ hl h0 (by omega)]; simp

theorem slice_sound {ρ : Rho} {ev : Operand → Option Value} {e : Operand → Value} (he : EvR ρ ev e) {dst type pos after guard} {t : TypeId} {x : Operand} {lo hi mx : Option Operand} {r : OR}
    (h : aLight P ev ⟨dst, .slice t x lo hi mx, type, pos, after, guard⟩ = some r) (w : World) : LightOut P ρ (execOp e ⟨dst, .slice t x lo hi mx, type, pos, after, guard⟩) w r := by
  simp only [aLight] at h
  split at h
  · next el base len cap hu hx =>
    split at h
    · next s l h' m hs hlo hhi hmx =>
      have hv := he _ _ hx
      generalize hex : e x = vx at hv
      have g1 := num_sound he hlo
      have g2 := num_sound he hhi
      have g3 := num_sound he hmx
      split at h
      · next hb =>
        obtain ⟨hb0, hb1, hb2⟩ := hb
        have f1 : (lo = none ∧ l.getD 0 = 0) ∨ ∃ z k, lo = some z ∧ e z = .int k (l.getD 0) := by
          rcases g1 with ⟨rfl, rfl⟩ | ⟨z, k, n, rfl, rfl, hz⟩
          · exact .inl ⟨rfl, rfl⟩
          · exact .inr ⟨z, k, rfl, hz⟩
        -- what is left, told the two slices
        have main : ∀ (base' : Option Addr) (cap' mm : Nat) (v : Value), e x = .slice base' len cap' →
            ((mx = none ∧ mm = cap') ∨ ∃ z k, mx = some z ∧ e z = .int k mm) → h'.getD len ≤ mm → mm ≤ cap' → (mx = none ∨ hi.isSome) →
            VR ρ v (.slice (if mm = (l.getD 0).toNat then base' else base'.map (·.add ((l.getD 0).toNat * s))) (h'.getD len - l.getD 0).toNat (mm - (l.getD 0).toNat)) →
            LightOut P ρ (execOp e ⟨dst, .slice t x lo hi mx, type, pos, after, guard⟩) w (.val v) := by
          intro base' cap' mm v hex' hm h1 h2 h3 hvr
          have f2 : (hi = none ∧ mx = none ∧ h'.getD len = len) ∨ ∃ z k, hi = some z ∧ e z = .int k (h'.getD len) := by
            rcases g2 with ⟨rfl, rfl⟩ | ⟨z, k, n, rfl, rfl, hz⟩
            · exact .inl ⟨rfl, h3.resolve_right (by simp), rfl⟩
            · exact .inr ⟨z, k, rfl, hz⟩
          have hrun := run_bounds (P := P) (e := e) f1 f2 hm hb0 hb1 h1 h2 w
          refine ValOut.light (s := Instr.sliceAt t (e x) (lo.map e) (hi.map e) (mx.map e)) (r := .val _) ⟨_, ?_, hvr⟩
          simp only [Instr.sliceAt, Instr.slice, Sem.run_bind, run_underlying hu, Result.andThen_ok, hex', hrun, run_sz hs, Sem.run_pure]
          congr 2
          omega
        have hlen : ∀ {b' l' c'}, VR ρ (.slice base len cap) (.slice b' l' c') → l' = len := by
          intro b' l' c' hv
          cases hv <;> rfl
        split at h
        · next mi =>
          rcases g3 with ⟨_, g3⟩ | ⟨zm, km, mj, hzm, g3, hezm⟩
          · cases g3
          cases g3
          split at h
          · next hc =>
            obtain ⟨hc1, hc2, hc3, hc4, hc5'⟩ := hc
            have hc5 : hi.isSome := by
              rcases g2 with ⟨_, rfl⟩ | ⟨z, k, n, rfl, _, _⟩
              · cases hc5'
              · rfl
            have hmn : ((mi.toNat : Nat) : Int) = mi := by omega
            have fm : ∀ cap', (mx = none ∧ mi.toNat = cap') ∨ ∃ z k, mx = some z ∧ e z = .int k (mi.toNat : Nat) := fun cap' => .inr ⟨zm, km, hzm, by rw [hmn]; exact hezm⟩
            cases hv with
            | sliceNil =>
              simp only at h; cases h
              refine main none 0 mi.toNat _ hex (fm _) (by omega) (by omega) (.inr hc5) ?_
              have e1 : (h'.getD ↑(0:Nat) - l.getD 0).toNat = 0 := by omega
              have e2 : mi.toNat - (l.getD 0).toNat = 0 := by omega
              rw [e1, e2]; simp; exact .sliceNil
            | sliceEmpty a a' =>
              simp only at h
              split at h
              · cases h
              · cases h
                refine main (some a') 0 mi.toNat _ hex (fm _) (by omega) (by omega) (.inr hc5) ?_
                have e1 : (h'.getD ↑(0:Nat) - l.getD 0).toNat = 0 := by omega
                have e2 : mi.toNat - (l.getD 0).toNat = 0 := by omega
                have e3 : (mi - l.getD 0).toNat = 0 := by omega
                have e4 : mi.toNat = (l.getD 0).toNat := by omega
                rw [e1, e2, e3, if_pos e4]; exact .sliceEmpty _ _
            | sliceTopEmpty a a' n =>
              simp only at h
              split at h
              · cases h
              · cases h
                refine main (some a') 0 mi.toNat _ hex (fm _) (by omega) (by omega) (.inr hc5) ?_
                have e1 : (h'.getD ↑(0:Nat) - l.getD 0).toNat = 0 := by omega
                have e2 : mi.toNat - (l.getD 0).toNat = 0 := by omega
                have e3 : (mi - l.getD 0).toNat = 0 := by omega
                have e4 : mi.toNat = (l.getD 0).toNat := by omega
                rw [e1, e2, e3, if_pos e4]; exact .sliceEmpty _ _
            | slice b off _ _ L hcap hL =>
              simp only at h
              split at h
              · cases h
              · cases h
                refine main _ cap mi.toNat _ hex (fm _) (by omega) (by omega) (.inr hc5) ?_
                have e3 : (mi - l.getD 0).toNat = mi.toNat - (l.getD 0).toNat := by omega
                rw [e3]
                by_cases hml : mi = l.getD 0
                · rw [if_pos hml, if_pos (by omega)]; exact .slice b off _ _ L (by omega) hL
                · rw [if_neg hml, if_neg (by omega)]
                  simp only [Option.map_some, addr_add, Nat.add_assoc]
                  exact .slice b (off + (l.getD 0).toNat * s) _ _ L (by omega) hL
            | sliceTop b off _ capc L hL hl hx' =>
              simp only at h
              split at h
              · cases h
              · cases h
                refine main _ capc mi.toNat _ hex (fm _) (by omega) (by omega) (.inr hc5) ?_
                have e3 : (mi - l.getD 0).toNat = mi.toNat - (l.getD 0).toNat := by omega
                rw [e3]
                by_cases hml : mi = l.getD 0
                · rw [if_pos hml, if_pos (by omega)]; exact .slice b off _ _ L (by omega) hL
                · rw [if_neg hml, if_neg (by omega)]
                  simp only [Option.map_some, addr_add, Nat.add_assoc]
                  exact .slice b (off + (l.getD 0).toNat * s) _ _ L (by omega) hL
          · cases h
        · rcases g3 with ⟨g3, _⟩ | ⟨_, _, _, _, g3, _⟩
          case inr => cases g3
          have fm : ∀ cap', (mx = none ∧ cap' = cap') ∨ ∃ z k, mx = some z ∧ e z = .int k (cap' : Nat) := fun cap' => .inl ⟨g3, rfl⟩
          cases hv with
          | sliceNil =>
            simp only at h; cases h
            refine main none 0 0 _ hex (fm _) (by omega) (by omega) (.inl g3) ?_
            have e1 : (h'.getD ↑(0:Nat) - l.getD 0).toNat = 0 := by omega
            rw [e1]; simp; exact .sliceNil
          | sliceEmpty a a' =>
            simp only at h
            split at h
            · cases h
            · split at h
              · rw [if_pos (Nat.zero_le _)] at h
                cases h
                refine main (some a') 0 0 _ hex (fm _) (by omega) (by omega) (.inl g3) ?_
                have e1 : (h'.getD ↑(0:Nat) - l.getD 0).toNat = 0 := by omega
                have e2 : 0 - (l.getD 0).toNat = 0 := by omega
                have e4 : 0 = (l.getD 0).toNat := by omega
                rw [e1, e2, if_pos e4]; exact .sliceEmpty _ _
              · next hc => exact absurd (by unfold topCap; omega) hc
          | sliceTopEmpty a a' n =>
            simp only at h
            split at h
            · cases h
            · split at h
              · omega
              · split at h
                · cases h
                  refine main (some a') 0 0 _ hex (fm _) (by omega) (by omega) (.inl g3) ?_
                  have e1 : (h'.getD ↑(0:Nat) - l.getD 0).toNat = 0 := by omega
                  have e2 : 0 - (l.getD 0).toNat = 0 := by omega
                  have e4 : 0 = (l.getD 0).toNat := by omega
                  rw [e1, e2, if_pos e4]; exact .sliceTopEmpty _ _ _
                · cases h
          | slice b off _ _ L hcap hL =>
            simp only [Option.isSome_none, Bool.false_eq_true, if_false, hcap, if_true] at h
            by_cases hle : len ≤ cap
            · rw [if_pos hle] at h
              have h := (Option.some.inj h).symm
              subst h
              refine main _ cap cap _ hex (fm _) (by omega) (by omega) (.inl g3) ?_
              by_cases hml : (cap : Int) = l.getD 0
              · rw [if_pos hml, if_pos (by omega)]; exact .slice b off _ _ L (by omega) hL
              · rw [if_neg hml, if_neg (by omega)]
                simp only [Option.map_some, addr_add, Nat.add_assoc]
                exact .slice b (off + (l.getD 0).toNat * s) _ _ L (by omega) hL
            · rw [if_neg hle] at h; cases h
          | sliceTop b off _ capc L hL hl hx' =>
            simp only at h
            split at h
            · cases h
            · split at h
              · omega
              · split at h
                · next hcs =>
                  cases h
                  refine main _ capc capc _ hex (fm _) (by omega) (by omega) (.inl g3) ?_
                  have hse : s = L.esz := by omega
                  subst hse
                  by_cases hml : capc = (l.getD 0).toNat
                  · rw [if_pos hml]
                    have e1 : (h'.getD len - l.getD 0).toNat = 0 := by omega
                    have e2 : capc - (l.getD 0).toNat = 0 := by omega
                    rw [e1, e2]; exact .sliceTopEmpty _ _ _
                  · rw [if_neg hml]
                    simp only [Option.map_some, addr_add, Nat.add_assoc]
                    refine .sliceTop b (off + (l.getD 0).toNat * L.esz) _ _ L hL (by omega) ?_
                    have hle : (l.getD 0).toNat ≤ capc := by omega
                    have : (l.getD 0).toNat * L.esz + (capc - (l.getD 0).toNat) * L.esz = capc * L.esz := by
                      rw [← Nat.add_mul]; congr 1; omega
                    omega
                · cases h
      · cases h
    · cases h
  · cases h

end light
end Go.Ab

namespace Go.Ab
section light
variable {P : Program}

theorem typeAssert_sound {ρ : Rho} {ev : Operand → Option Value} {e : Operand → Value} (he : EvR ρ ev e) {dst type pos after guard} {x : Operand} {xT asserted : TypeId} {ok : Bool} {r : OR}
    (h : aLight P ev ⟨dst, .typeAssert x xT asserted ok, type, pos, after, guard⟩ = some r) (w : World) : LightOut P ρ (execOp e ⟨dst, .typeAssert x xT asserted ok, type, pos, after, guard⟩) w r := by
  simp only [aLight] at h
  have fin : ∀ {r}, ValOut P ρ (Instr.typeAssert (e x) xT asserted ok) w r → LightOut P ρ (execOp e ⟨dst, .typeAssert x xT asserted ok, type, pos, after, guard⟩) w r := fun h => h.light
  split at h
  · cases h
  · next d t v hno hd hx =>
    have hv := he _ _ hx
    generalize hex : e x = vx at hv fin
    cases hv with
    | iface _ _ v' hv =>
      have hrun : (Instr.typeAssert (.iface t v') xT asserted ok).run P w =
          (if t = asserted then (pure (if ok then .tuple #[v', .bool true] else v') : Sem Value) else
            (if ok then (do pure (.tuple #[← zeroValue asserted, .bool false])) else runtimePanic (.typeAssertion (some xT) (some t) asserted ""))).run P w := by
        cases d <;> first | (exact absurd rfl (hno _)) | (simp only [Instr.typeAssert, Sem.run_bind, run_underlying hd, Result.andThen_ok])
      split at h
      · next e =>
        cases h
        refine fin ⟨_, by rw [hrun, if_pos e]; rfl, ?_⟩
        cases ok
        · exact hv
        · exact .tuple _ _ (.cons _ _ _ _ hv (.cons _ _ _ _ (.bool true) .nil))
      · next e =>
        split at h
        · next hok =>
          cases hz : zeroOf P asserted with
          | none => simp [hz] at h
          | some z =>
            simp only [hz, Option.map_some, Option.some.injEq] at h
            subst h
            obtain ⟨h1, h2⟩ := run_zero hz w
            refine fin ⟨.tuple #[z, .bool false], ?_, .tuple _ _ (.cons _ _ _ _ (VR.refl ρ h2) (.cons _ _ _ _ (.bool false) .nil))⟩
            rw [hrun, if_neg e, if_pos hok]; simp [h1]
        · cases h
  · next d hno hd hx =>
    have hv := he _ _ hx
    generalize hex : e x = vx at hv fin
    cases hv
    have hrun : (Instr.typeAssert .nilIface xT asserted ok).run P w =
        (if ok then (do pure (.tuple #[← zeroValue asserted, .bool false])) else runtimePanic (.typeAssertion (some xT) none asserted "") : Sem Value).run P w := by
      cases d <;> first | (exact absurd rfl (hno _)) | (simp only [Instr.typeAssert, Sem.run_bind, run_underlying hd, Result.andThen_ok])
    split at h
    · next hok =>
      cases hz : zeroOf P asserted with
      | none => simp [hz] at h
      | some z =>
        simp only [hz, Option.map_some, Option.some.injEq] at h
        subst h
        obtain ⟨h1, h2⟩ := run_zero hz w
        refine fin ⟨.tuple #[z, .bool false], ?_, .tuple _ _ (.cons _ _ _ _ (VR.refl ρ h2) (.cons _ _ _ _ (.bool false) .nil))⟩
        rw [hrun, if_pos hok]; simp [h1]
    · cases h
  · cases h

theorem run_mapSz : ∀ (l : List Field), (l.all fun f => (szOf P f.type).isSome) = true → ∀ w : World, ∃ pl : List (Nat × Nat),
    (l.mapM fun f => (do pure (f.offset, ← sizeOf f.type) : Sem (Nat × Nat))).run P w = .ok pl w ∧ ∀ i : Nat, pl[i]? = (l[i]?).bind fun f => (szOf P f.type).map fun s => (f.offset, s)
  | [], _, w => ⟨[], rfl, fun i => by simp⟩
  | f :: fs, h, w => by
    simp only [List.all_cons, Bool.and_eq_true] at h
    obtain ⟨s, hs⟩ := Option.isSome_iff_exists.1 h.1
    obtain ⟨pl, h1, h2⟩ := run_mapSz fs h.2 w
    refine ⟨(f.offset, s) :: pl, ?_, fun i => ?_⟩
    · simp only [List.mapM_cons, Sem.run_bind, run_sz hs, Result.andThen_ok, Sem.run_pure]
      rw [h1]; rfl
    · cases i with
      | zero => simp [hs]
      | succ i => simpa using h2 i

theorem build_sound {ρ : Rho} {ev : Operand → Option Value} {e : Operand → Value} (he : EvR ρ ev e) {dst type pos after guard} {t : TypeId} {parts : Array (Nat × Operand)} {r : OR}
    (h : aLight P ev ⟨dst, .build t parts, type, pos, after, guard⟩ = some r) (w : World) : LightOut P ρ (execOp e ⟨dst, .build t parts, type, pos, after, guard⟩) w r := by
  simp only [aLight] at h
  have fin : ∀ {r}, ValOut P ρ (Instr.build t (parts.map fun (i, x) => (i, e x))) w r → LightOut P ρ (execOp e ⟨dst, .build t parts, type, pos, after, guard⟩) w r := fun h => h.light
  have hpl : (parts.map fun (i, x) => (i, e x)).toList = parts.toList.map fun (i, x) => (i, e x) := by simp
  split at h
  · next z fields ps hz hu hps =>
    obtain ⟨hz1, hz2⟩ := run_zero hz w
    split at h
    · next cells hf =>
      split at h
      · next hall =>
        cases h
        obtain ⟨r', hf', hr'⟩ := fill_sound (evParts_sound he hps) (VR.refl ρ hz2).cells hf
        obtain ⟨pl, hp1, hp2⟩ := run_mapSz fields.toList (by simpa using hall) w
        refine fin ⟨.agg r', ?_, .agg _ _ hr'⟩
        have hm : (fields.mapM fun f => (do pure (f.offset, ← sizeOf f.type) : Sem (Nat × Nat))).run P w = .ok pl.toArray w := by
          rw [Array.mapM_eq_mapM_toList]
          simp only [Sem.run_map, hp1, Result.andThen_ok]
        have hpf : (fun i : Nat => pl.toArray[i]?) = fun i => (fields[i]?).bind fun f => (szOf P f.type).map fun s => (f.offset, s) := by
          funext i
          rw [List.getElem?_toArray, hp2 i, Array.getElem?_toList]
        simp only [Instr.build, Sem.run_bind, hz1, Result.andThen_ok, run_underlying hu, hm]
        rw [hpf, hpl, hf']
        rfl
      · cases h
    · cases h
  · next z n el ps hz hu hps =>
    obtain ⟨hz1, hz2⟩ := run_zero hz w
    split at h
    · next s hs =>
      split at h
      · next cells hf =>
        cases h
        obtain ⟨r', hf', hr'⟩ := fill_sound (evParts_sound he hps) (VR.refl ρ hz2).cells hf
        refine fin ⟨.agg r', ?_, .agg _ _ hr'⟩
        simp only [Instr.build, Sem.run_bind, hz1, Result.andThen_ok, run_underlying hu, run_sz hs]
        rw [hpl, hf']
        rfl
      · cases h
    · cases h
  · cases h

theorem resolve_builtin {e : Operand → Value} {type : TypeId} {b : Builtin} {args : Array Operand} {at_ : Array TypeId} :
    ∃ cs : Array Bool, resolve e ⟨.builtin b, args, at_⟩ type = pure { target := .builtin b at_ type cs, args := args.map e } := ⟨_, rfl⟩

theorem exec_builtin {e : Operand → Value} {dst type pos after guard} {b : Builtin} {args : Array Operand} {at_ : Array TypeId} :
    ∃ cs : Array Bool, ∀ w : World, (execOp e ⟨dst, .call ⟨.builtin b, args, at_⟩, type, pos, after, guard⟩).run P w = (builtin b at_ type cs (args.map e)).run P w := by
  obtain ⟨cs, h⟩ := resolve_builtin (e := e) (type := type) (b := b) (args := args) (at_ := at_)
  refine ⟨cs, fun w => ?_⟩
  simp only [execOp, h, Sem.run_bind, Sem.run_pure, Result.andThen_ok, invoke]

theorem args_cons {ρ : Rho} {ev : Operand → Option Value} {e : Operand → Value} (he : EvR ρ ev e) {args : Array Operand} {x : Value} {xs : List Value} (h : evs ev args.toList = some (x :: xs)) :
    ∃ x' xs', args.toList.map e = x' :: xs' ∧ (args.map e)[0]? = some x' ∧ VR ρ x x' ∧ VRs ρ xs xs' := by
  have hv := evs_sound he h
  generalize hl : args.toList.map e = l at hv
  cases hv with
  | cons _ x' _ xs' h1 h2 =>
    refine ⟨x', xs', rfl, ?_, h1, h2⟩
    rw [← Array.getElem?_toList, Array.toList_map, hl]; rfl

theorem builtin_sound {ρ : Rho} {ev : Operand → Option Value} {e : Operand → Value} (he : EvR ρ ev e) {dst type pos after guard} {c : Call} {r : OR}
    (h : aLight P ev ⟨dst, .call c, type, pos, after, guard⟩ = some r) (w : World) : LightOut P ρ (execOp e ⟨dst, .call c, type, pos, after, guard⟩) w r := by
  obtain ⟨callee, args, ats⟩ := c
  cases callee with
  | value f => simp [aLight] at h
  | invoke a b => simp [aLight] at h
  | builtin b =>
  obtain ⟨cs, hcs⟩ := exec_builtin (P := P) (e := e) (dst := dst) (type := type) (pos := pos) (after := after) (guard := guard) (b := b) (args := args) (at_ := ats)
  have fin : ∀ {s : Sem Value} {r}, (builtin b ats type cs (args.map e)) = (do pure (Next.value (← s))) → ValOut P ρ s w r →
      LightOut P ρ (execOp e ⟨dst, .call ⟨.builtin b, args, ats⟩, type, pos, after, guard⟩) w r := by
    intro s r hs hv
    have := hv.light
    rw [← hs] at this
    cases r with
    | val v => obtain ⟨v', h1, h2⟩ := this; exact ⟨v', by rw [hcs]; exact h1, h2⟩
    | pan ch => obtain ⟨v', h1, h2⟩ := this; exact ⟨v', by rw [hcs]; exact h1, h2⟩
    | defer d => exact this.elim
  cases b <;> simp only [aLight] at h <;> first | (cases h; done) | skip
  case len =>
    split at h
    · next t x xs ht hx =>
      obtain ⟨x', xs', h1, h2, h3, h4⟩ := args_cons he hx
      split at h <;> first | (cases h; done) | skip
      · next s hu => cases h3; cases h; exact fin rfl ⟨_, by simp [Builtin.len_, ht, h2, run_underlying hu, goInt], .int _ _⟩
      · next n el hu => cases h; exact fin rfl ⟨_, by simp [Builtin.len_, ht, h2, run_underlying hu, goInt], .int _ _⟩
      · next el b n c hu => cases h; cases h3 <;> exact fin rfl ⟨_, by simp [Builtin.len_, ht, h2, run_underlying hu, goInt], .int _ _⟩
      · next k v hu => cases h; cases h3; exact fin rfl ⟨_, by simp [Builtin.len_, ht, h2, run_underlying hu, goInt], .int _ _⟩
    · cases h
  case cap =>
    split at h
    · next t x xs ht hx =>
      obtain ⟨x', xs', h1, h2, h3, h4⟩ := args_cons he hx
      split at h <;> first | (cases h; done) | skip
      · next n el hu => cases h; exact fin rfl ⟨_, by simp [Builtin.cap_, ht, h2, run_underlying hu, goInt], .int _ _⟩
      · next el b n c hu =>
        split at h
        · next hc =>
          cases h
          cases h3 with
          | sliceTop => omega
          | sliceTopEmpty => omega
          | _ => exact fin rfl ⟨_, by simp [Builtin.cap_, ht, h2, run_underlying hu, goInt], .int _ _⟩
        · cases h
    · cases h
  case max =>
    split at h
    · next k x k' y hx =>
      obtain ⟨x', xs', h1, h2, h3, h4⟩ := args_cons he hx
      cases h4 with
      | cons _ y' _ _ h5 h6 =>
      cases h6; cases h3; cases h5
      split at h
      · next hk =>
        cases h
        subst hk
        exact fin rfl ⟨_, by simp [Builtin.max_, h1, Builtin.max2], .int _ _⟩
      · cases h
    · cases h
  case min =>
    split at h
    · next k x k' y hx =>
      obtain ⟨x', xs', h1, h2, h3, h4⟩ := args_cons he hx
      cases h4 with
      | cons _ y' _ _ h5 h6 =>
      cases h6; cases h3; cases h5
      split at h
      · next hk =>
        cases h
        subst hk
        exact fin rfl ⟨_, by simp [Builtin.min_, h1, Builtin.min2], .int _ _⟩
      · cases h
    · cases h

theorem light_sound {ρ : Rho} {ev : Operand → Option Value} {e : Operand → Value} (he : EvR ρ ev e) {o : Oper} {r : OR} (h : aLight P ev o = some r) (w : World) : LightOut P ρ (execOp e o) w r := by
  obtain ⟨dst, op, type, pos, after, guard⟩ := o
  cases op
  case nilCheck x => exact nilCheck_sound he h w
  case fieldAddr s x f => exact fieldAddr_sound he h w
  case indexAddr t x i => exact indexAddr_sound he h w
  case index t x i => exact index_sound he h w
  case slice t x lo hi mx => exact slice_sound he h w
  case typeAssert x xT a ok => exact typeAssert_sound he h w
  case build t parts => exact build_sound he h w
  case call c => exact builtin_sound he h w
  all_goals first
    | exact simple_sound he h trivial w
    | (simp [aLight] at h; done)

end light
end Go.Ab
