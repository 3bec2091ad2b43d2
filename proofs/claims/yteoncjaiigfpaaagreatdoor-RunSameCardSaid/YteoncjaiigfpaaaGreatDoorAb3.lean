import Derived.Test.YteoncjaiigfpaaaGreatDoorAb2
set_option linter.all false
namespace Go.Ab
section heavy
variable {P : Program}

theorem default_rel (ρ : Rho) : VR ρ (default : Value) (default : Value) := .bool _

theorem plain_cell {ρ : Rho} {z : Value} (h : plain z = true) (i : Nat) : VR ρ z.cells[i]! z.cells[i]! := by
  have hc := (VR.refl ρ h).cells
  by_cases hi : i < z.cells.size
  · obtain ⟨v', h1, h2⟩ := hc.get (i := i) (v := z.cells[i]) (by simp [hi])
    rw [getElem!_pos z.cells i hi]
    simp [hi] at h1
    rw [h1]
    rw [h1] at h2
    exact h2
  · rw [getElem!_neg z.cells i hi]; exact default_rel ρ

theorem VRs.refl_of {ρ : Rho} {l : List Value} (h : ∀ v ∈ l, VR ρ v v) : VRs ρ l l := by
  induction l with
  | nil => exact .nil
  | cons x xs ih => exact .cons _ _ _ _ (h x (by simp)) (ih fun v hv => h v (by simp [hv]))

theorem zero_cells {ρ : Rho} {z : Value} (h : plain z = true) (n : Nat) : VRs ρ ((Array.range n).map (z.cells[· % z.cells.size]!)).toList ((Array.range n).map (z.cells[· % z.cells.size]!)).toList := by
  refine VRs.refl_of fun v hv => ?_
  simp only [Array.toList_map, List.mem_map] at hv
  obtain ⟨i, _, rfl⟩ := hv
  exact plain_cell h _

def mkC (c : Nat) : Option Nat → Value
  | none => .pointer (some ⟨c, 0, none⟩)
  | some n => .slice (some ⟨c, 0, none⟩) n n

theorem make_sound {ρ : Rho} {ev : Operand → Option Value} {e : Operand → Value} (he : EvR ρ ev e) {o : Oper} {cs : List Value} {esz : Nat} {l : Option Nat} (h : aMake P ev o = some (.row cs esz l)) :
    (∀ n, l = some n → n < topCap) ∧ ∃ (arr : Array Value) (el : TypeId), VRs ρ cs arr.toList ∧ ∀ w : World,
      (execOp e o).run P w = .ok (.value (mkC w.heap.size l)) { w with heap := w.heap.push (.cells arr el) } := by
  obtain ⟨dst, op, type, pos, after, guard⟩ := o
  cases op <;> simp only [aMake] at h <;> first | (cases h; done) | skip
  case alloc el =>
    split at h
    · next z hz =>
      cases h
      refine ⟨(fun n hn => by cases hn), z.cells, el, (VR.refl ρ (run_zero hz default).2).cells, fun w => ?_⟩
      simp [execOp, Instr.alloc, (run_zero hz w).1, newVar, newRow, mkC]
    · cases h
  case box el x =>
    cases hx : ev x with
    | none => simp [hx] at h
    | some v =>
      simp only [hx, Option.map_some, Option.some.injEq, LR.row.injEq] at h
      obtain ⟨rfl, rfl, rfl⟩ := h
      refine ⟨(fun n hn => by cases hn), (e x).cells, el, (he _ _ hx).cells, fun w => ?_⟩
      simp [execOp, Instr.box, newVar, newRow, mkC]
  case buildSlice t len parts =>
    split at h
    · next el ps hu hps =>
      split at h
      · next s hs =>
        split at h
        · cases h
        · next hlim =>
          have hpl : (parts.map fun (i, x) => (i, e x)).toList = parts.toList.map fun (i, x) => (i, e x) := by simp
          split at h
          · next zero hz =>
            split at h
            · next cells hf =>
              cases h
              have hz' : ∀ w : World, (if len * esz = 0 then (pure #[] : Sem (Array Value)) else do pure (← zeroValue el).cells).run P w = .ok zero w := by
                intro w
                split at hz
                · next h0 => cases hz; rw [if_pos h0]; rfl
                · next h0 =>
                  rw [if_neg h0]
                  cases hzo : zeroOf P el with
                  | none => simp [hzo] at hz
                  | some z => simp only [hzo, Option.map_some, Option.some.injEq] at hz; subst hz; simp [(run_zero hzo w).1]
              have hrel : VRs ρ ((Array.range (len * esz)).map (zero[· % zero.size]!)).toList ((Array.range (len * esz)).map (zero[· % zero.size]!)).toList := by
                split at hz
                · next h0 => rw [h0]; simp; exact .nil
                · cases hzo : zeroOf P el with
                  | none => simp [hzo] at hz
                  | some z => simp only [hzo, Option.map_some, Option.some.injEq] at hz; subst hz; exact zero_cells (run_zero hzo default).2 _
              obtain ⟨r', hf', hr'⟩ := fill_sound (evParts_sound he hps) hrel hf
              refine ⟨(fun n hn => by cases hn; omega), r', el, hr', fun w => ?_⟩
              have hlim' : ¬ len * esz > 2 ^ 24 := fun h => hlim (.inl h)
              have hfin : (Instr.buildSlice t len (parts.map fun (i, x) => (i, e x))).run P w = .ok (mkC w.heap.size (some len)) { w with heap := w.heap.push (.cells r' el) } := by
                have hstep : ∀ z, zero = z → (do
                    let some cells := Instr.fill (fun i => some (i * esz, esz)) ((Array.range (len * esz)).map (z[· % z.size]!)) (parts.map fun (i, x) => (i, e x)).toList
                      | stuck "buildSlice: a part of the wrong size"
                    pure (.slice (some (← newRow el cells)) len len) : Sem Value).run P w = .ok (mkC w.heap.size (some len)) { w with heap := w.heap.push (.cells r' el) } := by
                  intro z hzz
                  subst hzz
                  rw [hpl, hf']
                  simp [newRow, mkC]
                simp only [Instr.buildSlice, Sem.run_bind, run_underlying hu, Result.andThen_ok, run_sz hs, hlim', if_false]
                by_cases h0 : len * esz = 0
                · have hzz : zero = #[] := by rw [if_pos h0] at hz; cases hz; rfl
                  simp only [h0, if_true] at hstep ⊢
                  exact hstep #[] hzz
                · cases hzo : zeroOf P el with
                  | none => rw [if_neg h0, hzo] at hz; cases hz
                  | some z =>
                    rw [if_neg h0, hzo] at hz
                    cases hz
                    simp only [h0, if_false, Sem.run_bind, (run_zero hzo w).1, Result.andThen_ok, Sem.run_pure]
                    exact hstep _ rfl
              simp only [execOp, Sem.run_bind, hfin, Result.andThen_ok, Sem.run_pure]
            · cases h
          · cases h
      · cases h
    · cases h

theorem load_sound {ρ : Rho} {A : H} {w : World} (hr : Rel P ρ A w) {t : TypeId} {x v x' : Value} (h : aLoad P A t x = some v) (hx : VR ρ x x') :
    ∃ v', (Instr.loadAt t x').run P w = .ok v' w ∧ VR ρ v v' := by
  unfold aLoad at h
  split at h
  · next d n b off hd hn =>
    cases hx with
    | ptr _ _ L hL =>
      split at h
      · next ha =>
        cases hread : A.read b off n with
        | none => simp [hread] at h
        | some cs =>
          simp only [hread, Option.map_some, Option.some.injEq] at h
          subst h
          obtain ⟨r, h1', h2⟩ := hr.read hread hL
          have h1 := h1' w rfl
          exact ⟨.agg r, by simp [Instr.loadAt, Instr.sureAddr, loadVar, run_agg? hd, ha, run_sz hn, h1], .agg _ _ h2⟩
      · next ha =>
        split at h
        · next v0 hread =>
          cases h
          obtain ⟨r, h1', h2⟩ := hr.read hread hL
          have h1 := h1' w rfl
          cases hrl : r.toList with
          | nil => rw [hrl] at h2; cases h2
          | cons y ys =>
            rw [hrl] at h2
            cases h2 with
            | cons _ _ _ _ h3 h4 =>
              cases h4
              have hr' : r = #[y] := by
                apply Array.toList_inj.1; rw [hrl]
              subst hr'
              refine ⟨y, ?_, h3⟩
              have h1'' : (load ⟨L.blk, L.off0 + off, none⟩).run P w = .ok y w := by
                simp only [loadCells, loadCellsFrom, Sem.run_bind, addr_add, Nat.add_zero] at h1
                cases hl : (load ⟨L.blk, L.off0 + off, none⟩).run P w with
                | ok a w1 =>
                  rw [hl] at h1
                  simp only [Result.andThen_ok, Sem.run_pure, Result.ok.injEq] at h1
                  obtain ⟨h5, h6⟩ := h1
                  have : a = y := by simpa using h5
                  rw [this, h6]
                | halt x w1 => rw [hl] at h1; simp at h1
              have ha' : isAggD d = false := by simpa using ha
              simp only [Instr.loadAt, Instr.sureAddr, loadVar, Sem.run_bind, Sem.run_pure, Result.andThen_ok, run_agg? hd, ha']
              simpa using h1''
        · cases h
  · cases h

theorem flatEq_eq {a b : Value} (h : flatEq a b = some true) : a = b := by
  unfold flatEq at h
  split at h
  · split at h
    · next e => simp at h; rw [e, h]
    · cases h
  · simp at h; rw [h]
  · next x y =>
    have h1 : (x == y) = true := Option.some.inj h
    rw [beq_toListBytes] at h1
    have h2 := eq_of_beq h1
    rw [ByteArray.toList_eq, ByteArray.toList_eq] at h2
    cases x; cases y
    simp only at h2
    rw [Array.toList_inj.1 h2]
  · cases h

/-- What is found in a map, in both. -/
theorem find_sound {ρ : Rho} {kd : TypeDesc} {key key' : Value} (hk : keyKind kd key = true) (hkey : VR ρ key key') : ∀ {es es' : List MapEntry} {i : Nat} {r : Option (Nat × Value)}, MERs ρ es es' →
    findInt key es i = some r → ∃ r', Instr.findNow kd key' es' i = some r' ∧
      ((r = none ∧ r' = none) ∨ ∃ j v v' e', r = some (j, v) ∧ r' = some (j, v') ∧ VR ρ v v' ∧ i ≤ j ∧ es'[j - i]? = some e' ∧ e'.key = key') := by
  intro es
  induction es with
  | nil => intro es' i r hm h; cases hm; simp only [findInt] at h; cases h; exact ⟨none, rfl, .inl ⟨rfl, rfl⟩⟩
  | cons e es ih =>
    intro es' i r hm h
    cases hm with
    | cons _ e' _ es' he hes =>
      have hsame : ∀ b, flatEq key e.key = some b → Instr.sameNow kd key' e'.key = some b ∧ (b = true → e'.key = key') := by
        intro b hb
        have hek := he.1
        generalize e'.key = k2 at hek
        generalize e.key = k1 at hek hb
        have hb' : ∀ (hb : b = true), k1 = key := fun hbt => (flatEq_eq (hbt ▸ hb)).symm
        unfold keyKind at hk
        split at hk
        · cases hkey
          cases hek <;> first | (simp [flatEq] at hb; done) | skip
          simp only [flatEq] at hb
          split at hb
          · next hkk => subst hkk; cases hb; exact ⟨by simp [Instr.sameNow], hb'⟩
          · cases hb
        · cases hkey
          cases hek <;> first | (simp [flatEq] at hb; done) | (simp only [flatEq] at hb; cases hb; exact ⟨rfl, hb'⟩)
        · cases hkey
          cases hek <;> first | (simp [flatEq] at hb; done) | (simp only [flatEq] at hb; cases hb; exact ⟨rfl, hb'⟩)
        · cases hk
      simp only [findInt] at h
      simp only [Instr.findNow]
      split at h
      · next hb =>
        obtain ⟨h1, h2⟩ := hsame _ hb
        cases h
        rw [h1]
        exact ⟨_, rfl, .inr ⟨i, e.val, e'.val, e', rfl, rfl, he.2.1, Nat.le_refl _, by simp, h2 rfl⟩⟩
      · next hb =>
        obtain ⟨h1, h2⟩ := hsame _ hb
        rw [h1]
        obtain ⟨r', h3, h4⟩ := ih hes h
        refine ⟨r', h3, h4.imp id ?_⟩
        rintro ⟨j, v, v', e2, h5, h6, h7, h8, h9, h10⟩
        refine ⟨j, v, v', e2, h5, h6, h7, by omega, ?_, h10⟩
        rw [show j - i = (j - (i + 1)) + 1 from by omega]
        simpa using h9
      · cases h

theorem checkKey_ok {kt : TypeId} {kd : TypeDesc} (hu : P.underlying kt = some kd) {key : Value} (hk : keyKind kd key = true) {ρ : Rho} {key' : Value} (hkey : VR ρ key key') (b : Bool) (w : World) :
    (Instr.checkKey b 10000 kt key').run P w = .ok () w := by
  show (Instr.checkKey b (9999 + 1) kt key').run P w = _
  generalize 9999 = n
  unfold keyKind at hk
  split at hk <;> first | (cases hk; done) | (cases hkey; simp [Instr.checkKey, run_underlying hu])

theorem lookup_sound {ρ : Rho} {A : H} {w : World} (hr : Rel P ρ A w) {ev : Operand → Option Value} {e : Operand → Value} (he : EvR ρ ev e) {callF : CallF} {dst type pos after guard}
    {t : TypeId} {x k : Operand} {ok : Bool} {r : OR} {A' : H} (h : aOp P callF ev ⟨dst, .lookup t x k ok, type, pos, after, guard⟩ A = some (r, A')) :
    A' = A ∧ LightOut P ρ (execOp e ⟨dst, .lookup t x k ok, type, pos, after, guard⟩) w r := by
  simp only [aOp] at h
  split at h
  · next kt et m key hu hm hk =>
    split at h
    · next kd z hkd hz =>
      split at h
      · next hkk =>
        have hv := he _ _ hm
        have hkey := he _ _ hk
        generalize hex : e x = vx at hv
        -- the entries, in both
        have hes : ∀ es, (match m with | .map none => some [] | .map (some r) => (match A.get r with | some (.map es _) => some es | _ => none) | _ => none : Option (List MapEntry)) = some es →
            ∃ es' : Array MapEntry, MERs ρ es es'.toList ∧ ((vx = .map none ∧ es' = #[]) ∨ ∃ c cl, vx = .map (some c) ∧ (getObj c).run P w = .ok (.map es' cl) w) := by
          intro es hes
          cases hv <;> simp only at hes <;> first | (cases hes; done) | skip
          · cases hes; exact ⟨#[], .nil, .inl ⟨rfl, rfl⟩⟩
          · next b L hL =>
            split at hes
            · next es0 cl hb =>
              cases hes
              obtain ⟨L', hL', es', h1, h2⟩ := hr.blk _ _ hb
              rw [hL] at hL'
              cases hL'
              exact ⟨es', h2, .inr ⟨L.blk, cl, rfl, by simp [getObj, Sem.run, h1]⟩⟩
            · cases hes
        split at h
        · next es hes0 =>
          obtain ⟨es', hm', hrun⟩ := hes es hes0
          have hz1 := run_zero hz w
          have hrun2 : ∀ (rr : Option (Nat × Value)), Instr.findNow kd (e k) es'.toList 0 = some rr →
              (Instr.lookup t (e x) (e k) ok).run P w = .ok (match rr with
                | some (_, v) => if ok then .tuple #[v, .bool true] else v
                | none => if ok then .tuple #[z, .bool false] else z) w := by
            intro rr hrr
            have hfk : (Instr.findKey kt (e k) es'.toList).run P w = .ok rr w := by simp [Instr.findKey, run_underlying hkd, hrr]
            rw [hex]
            rcases hrun with ⟨rfl, rfl⟩ | ⟨c, cl, rfl, hg⟩
            · simp only [Instr.lookup, Sem.run_bind, run_underlying hu, Result.andThen_ok, Sem.run_pure, checkKey_ok hkd hkk hkey, hfk]
              cases rr with
              | none => simp [hz1.1]
              | some p => simp
            · simp only [Instr.lookup, Sem.run_bind, run_underlying hu, Result.andThen_ok, Sem.run_pure, hg, checkKey_ok hkd hkk hkey, hfk]
              cases rr with
              | none => simp [hz1.1]
              | some p => simp
          split at h
          · next j v hf =>
            cases h
            obtain ⟨r', h1, h2⟩ := find_sound hkk hkey hm' hf
            rcases h2 with ⟨h2, _⟩ | ⟨j', v1, v', e', h2, h3, h4, _⟩
            · cases h2
            · cases h2
              refine ⟨rfl, ValOut.light (s := Instr.lookup t (e x) (e k) ok) (r := .val _) ⟨_, hrun2 _ h1, ?_⟩⟩
              rw [h3]
              cases ok
              · exact h4
              · exact .tuple _ _ (.cons _ _ _ _ h4 (.cons _ _ _ _ (.bool true) .nil))
          · next hf =>
            cases h
            obtain ⟨r', h1, h2⟩ := find_sound hkk hkey hm' hf
            rcases h2 with ⟨_, h2⟩ | ⟨j', v1, v', e', h2, _⟩
            · refine ⟨rfl, ValOut.light (s := Instr.lookup t (e x) (e k) ok) (r := .val _) ⟨_, hrun2 _ h1, ?_⟩⟩
              rw [h2]
              cases ok
              · exact VR.refl ρ hz1.2
              · exact .tuple _ _ (.cons _ _ _ _ (VR.refl ρ hz1.2) (.cons _ _ _ _ (.bool false) .nil))
            · cases h2
          · cases h
        · cases h
      · cases h
    · cases h
  · cases h

end heavy
end Go.Ab

namespace Go.Ab
section heavy
variable {P : Program}

/-- What an operation that may turn memory comes to: a value; nobody else's memory is turned. -/
def ValMv (P : Program) (ρ : Rho) (A : H) (w : World) (A' : H) (s : Sem Next) (v : Value) : Prop :=
  ∃ ρ' v' w', s.run P w = .ok (.value v') w' ∧ Mv P ρ A w ρ' A' w' ∧ VR ρ' v v'

def SkipMv (P : Program) (ρ : Rho) (A : H) (w : World) (A' : H) (s : Sem Next) : Prop :=
  ∃ ρ' w', s.run P w = .ok .skip w' ∧ Mv P ρ A w ρ' A' w'

/-- A new row, in both. -/
theorem Rel.pushRow {ρ : Rho} {A : H} {w : World} (h : Rel P ρ A w) {cs : List Value} {arr : Array Value} (hv : VRs ρ cs arr.toList) (el : TypeId) (esz : Nat) :
    Mv P ρ A w (ρ.put A.next ⟨w.heap.size, 0, esz, arr.size⟩) (A.push (.row cs esz)) { w with heap := w.heap.push (.cells arr el) } := by
  refine h.push _ _ _ rfl ⟨rfl, arr, el, (0, 0), ?_, rfl, .inr rfl, fun i v hi => ?_⟩
  · simp
  · obtain ⟨v', h1, h2⟩ := hv.get hi
    exact ⟨v', by simpa using h1, h2⟩

theorem Rho.put_self (ρ : Rho) (b : Nat) (L : Loc) : (ρ.put b L) b = some L := by simp [Rho.put]

theorem make_mv {ρ : Rho} {A : H} {w : World} (hr : Rel P ρ A w) {ev : Operand → Option Value} {e : Operand → Value} (he : EvR ρ ev e) {o : Oper} {cs : List Value} {esz : Nat} {l : Option Nat}
    (h : aMake P ev o = some (.row cs esz l)) : ValMv P ρ A w (A.push (.row cs esz)) (execOp e o) (LR.mk A.next (.row cs esz l)) := by
  obtain ⟨hl, arr, el, h1, h2⟩ := make_sound he h
  refine ⟨_, _, _, h2 w, hr.pushRow h1 el esz, ?_⟩
  cases l with
  | none => exact .ptr A.next 0 _ (Rho.put_self _ _ _)
  | some n => exact .slice A.next 0 n n _ (hl n rfl) (Rho.put_self _ _ _)

theorem store_mv {ρ : Rho} {A : H} {w : World} (hr : Rel P ρ A w) {ev : Operand → Option Value} {e : Operand → Value} (he : EvR ρ ev e) {callF : CallF} {dst type pos after guard}
    {t : TypeId} {x y : Operand} {r : OR} {A' : H} (h : aOp P callF ev ⟨dst, .store t x y, type, pos, after, guard⟩ A = some (r, A')) :
    r = .val undef ∧ SkipMv P ρ A w A' (execOp e ⟨dst, .store t x y, type, pos, after, guard⟩) := by
  simp only [aOp] at h
  split at h
  · next b off v n hx hy hn =>
    split at h
    · next hsz =>
      cases hw : A.write b off v.cells.toList with
      | none => simp [hw] at h
      | some A1 =>
        simp only [hw, Option.map_some, Option.some.injEq, Prod.mk.injEq] at h
        obtain ⟨rfl, rfl⟩ := h
        have hv := he _ _ hx
        have hvy := he _ _ hy
        generalize hex : e x = vx at hv
        cases hv with
        | ptr _ _ L hL =>
          obtain ⟨w', h1, h2⟩ := hr.write hw hvy.cells hL
          refine ⟨rfl, ρ, w', ?_, h2⟩
          have hsz' : (e y).cells.size = n := by rw [← hvy.cells_size]; exact hsz
          simp only [execOp, Instr.storeAt, Instr.sureAddr, storeVar, Sem.run_bind, hex, Sem.run_pure, Result.andThen_ok, run_sz hn, hsz', ne_eq, not_true_eq_false, if_false, h1]
    · cases h
  · cases h

theorem makeMap_mv {ρ : Rho} {A : H} {w : World} (hr : Rel P ρ A w) {e : Operand → Value} {dst type pos after guard} {t : TypeId} :
    ValMv P ρ A w (A.push (.map [] 0)) (execOp e ⟨dst, .makeMap t none, type, pos, after, guard⟩) (.map (some A.next)) := by
  refine ⟨_, .map (some w.heap.size), _, by simp [execOp, Instr.makeMap], hr.push (.map [] 0) (.map #[] 0) ⟨w.heap.size, 0, 0, 0⟩ rfl ⟨#[], by simp, .nil⟩, .map A.next _ (Rho.put_self _ _ _)⟩

theorem wrap_i64 {n : Int} (h : -9223372036854775808 ≤ n) (h' : n < 9223372036854775808) : IntKind.i64.wrap n = n := by
  unfold IntKind.wrap
  simp only [IntKind.bits, IntKind.signed, Bool.true_and]
  split
  · next hc => simp at hc; omega
  · next hc => simp at hc; omega

theorem range0 (f : Nat → Value) : (Array.range 0).map f = #[] := by apply Array.toList_inj.1; simp

theorem makeSlice_mv {ρ : Rho} {A : H} {w : World} (hr : Rel P ρ A w) {ev : Operand → Option Value} {e : Operand → Value} (he : EvR ρ ev e) {callF : CallF} {dst type pos after guard}
    {t : TypeId} {l c : Operand} {r : OR} {A' : H} (h : aOp P callF ev ⟨dst, .makeSlice t l c, type, pos, after, guard⟩ A = some (r, A')) :
    ∃ v, r = .val v ∧ ValMv P ρ A w A' (execOp e ⟨dst, .makeSlice t l c, type, pos, after, guard⟩) v := by
  simp only [aOp] at h
  split at h
  · next el l0 c0 hu hl hc =>
    split at h
    · next i z hi hz =>
      split at h
      · next hcond =>
        obtain ⟨h0, h1, h2, h3, h4, h5⟩ := hcond
        cases h
        have hvl := he _ _ hl
        have hvc := he _ _ hc
        generalize hel : e l = vl at hvl
        generalize hec : e c = vc at hvc
        cases hvl; cases hvc
        have hz1 := run_zero hz w
        have wl : IntKind.i64.wrap l0 = l0 := wrap_i64 (by omega) (by omega)
        have wc : IntKind.i64.wrap c0 = c0 := wrap_i64 (by omega) (by omega)
        refine ⟨_, rfl, _, _, _, ?_, hr.pushRow (zero_cells hz1.2 _) el i.size, .slice A.next 0 _ _ _ (by unfold topCap; omega) (Rho.put_self _ _ _)⟩
        have hb : (i.bytes : Int) * c0 ≤ 2 ^ 48 := by
          have : (i.bytes : Int) * c0 ≤ (2 ^ 20 : Nat) * 2 ^ 20 := Int.mul_le_mul (by omega) h2 (by omega) (by omega)
          omega
        have hb' : (i.bytes : Int) * l0 ≤ 2 ^ 48 := by
          have : (i.bytes : Int) * l0 ≤ (2 ^ 20 : Nat) * 2 ^ 20 := Int.mul_le_mul (by omega) (by omega) (by omega) (by omega)
          omega
        have hszi : (sizeOf el).run P w = .ok i.size w := by simp [sizeOf, run_info hi]
        have e1 : ¬ (c0 < 0) := by omega
        have e2 : ¬ ((i.bytes : Int) * c0 > 2 ^ 48) := by omega
        have e3 : ¬ (l0 < 0) := by omega
        have e4 : ¬ (l0 > c0) := by omega
        have hfin : (Instr.makeSlice t (.int .i64 l0) (.int .i64 c0)).run P w = .ok (.slice (some ⟨w.heap.size, 0, none⟩) l0.toNat c0.toNat) { w with heap := w.heap.push (.cells ((Array.range (c0.toNat * i.size)).map (z.cells[· % z.cells.size]!)) el) } := by
          simp only [Instr.makeSlice, Sem.run_bind, run_underlying hu, Result.andThen_ok, asInt, asIntOf, Sem.run_pure, run_info hi, wl, wc]
          have e5 : (decide (c0 < 0) || decide ((i.bytes : Int) * c0 > 2 ^ 48) || decide (l0 < 0) || decide (l0 > c0)) = false := by
            simp only [Bool.or_eq_false_iff, decide_eq_false_iff_not]
            exact ⟨⟨⟨e1, e2⟩, e3⟩, e4⟩
          rw [if_neg (by rw [e5]; decide)]
          simp only [Sem.run_bind, run_askRoom, Result.andThen_ok, hszi]
          by_cases hn : c0.toNat * i.size = 0
          · simp [hn, newRow, range0]
          · simp only [hn, if_false, Sem.run_bind, hz1.1, Result.andThen_ok, Sem.run_pure]
            simp [newRow]
        simp only [execOp, Sem.run_bind, hel, hec, hfin, Result.andThen_ok, Sem.run_pure]
      · cases h
    · cases h
  · cases h

theorem MERs.get {ρ : Rho} : ∀ {l l' : List MapEntry}, MERs ρ l l' → ∀ {i : Nat} {v : MapEntry}, l[i]? = some v → ∃ v', l'[i]? = some v' ∧ MER ρ v v'
  | [], _, _, i, v, hv => by simp at hv
  | x :: xs, _, h, i, v, hv => by
    cases h with
    | cons _ y _ ys h1 h2 =>
      cases i with
      | zero => simp at hv; subst hv; exact ⟨y, rfl, h1⟩
      | succ i => simpa using MERs.get h2 (by simpa using hv)

theorem MERs.push {ρ : Rho} {l l' : List MapEntry} {e e' : MapEntry} (h : MERs ρ l l') (he : MER ρ e e') : MERs ρ (l ++ [e]) (l' ++ [e']) := by
  induction h with
  | nil => exact .cons _ _ _ _ he .nil
  | cons a a' as as' h1 _ ih => exact .cons _ _ _ _ h1 ih

theorem MERs.modify {ρ : Rho} {f f' : MapEntry → MapEntry} (hf : ∀ e e', MER ρ e e' → MER ρ (f e) (f' e')) : ∀ {l l' : List MapEntry}, MERs ρ l l' → ∀ i, MERs ρ (l.modify i f) (l'.modify i f')
  | [], _, h, i => by cases h; cases i <;> exact .nil
  | x :: xs, _, h, i => by
    cases h with
    | cons _ y _ ys h1 h2 =>
      cases i with
      | zero => exact .cons _ _ _ _ (hf _ _ h1) h2
      | succ i => exact .cons _ _ _ _ h1 (MERs.modify hf h2 i)

theorem mapUpdate_mv {ρ : Rho} {A : H} {w : World} (hr : Rel P ρ A w) {t : TypeId} {r : Nat} {key v vm' key' v' : Value} (hm : VR ρ (.map (some r)) vm') (hkey : VR ρ key key') (hv : VR ρ v v') {A' : H}
    (h : (match P.underlying t with
      | some (.map kt _) => match P.underlying kt, A.get r with
        | some kd, some (.map es clock) =>
          if keyKind kd key ∧ A.ro ≤ r then
            match findInt key es 0 with
            | some (some (i, _)) => some (A.put r (.map (es.modify i fun e => { e with key, val := v }) clock))
            | some none => some (A.put r (.map (es ++ [{ key, val := v, born := clock }]) (clock + 1)))
            | none => none
          else none
        | _, _ => none
      | _ => none) = some A') :
    ∃ w', (Instr.mapUpdate t vm' key' v').run P w = .ok () w' ∧ Mv P ρ A w ρ A' w' := by
  split at h
  · next kt et hu =>
    split at h
    · next kd es clock hkd hb =>
      split at h
      · next hc =>
        obtain ⟨hkk, hro⟩ := hc
        cases hm with
        | map _ L hL =>
        obtain ⟨L', hL', es', h1, h2⟩ := hr.blk _ _ hb
        rw [hL] at hL'
        cases hL'
        have hget : (getObj L.blk).run P w = .ok (.map es' clock) w := by simp [getObj, Sem.run, h1]
        have hlt := hr.low _ _ hL
        have hset : ∀ o, (setObj L.blk o).run P w = .ok () { w with heap := w.heap.setIfInBounds L.blk o } := by
          intro o; simp [setObj, Sem.run, h1]
        have hrun : ∀ rr, Instr.findNow kd key' es'.toList 0 = some rr → (Instr.mapUpdate t (.map (some L.blk)) key' v').run P w =
            (match rr with
              | some (i, _) => (do let key ← Instr.keyThatStays (((es'[i]?).map (fun x : MapEntry => x.key)).getD key') key'; setObj L.blk (.map (es'.modify i fun e => { e with key, val := v' }) clock) : Sem Unit)
              | none => setObj L.blk (.map (es'.push { key := key', val := v', born := clock }) (clock + 1))).run P w := by
          intro rr hrr
          have hfk : (Instr.findKey kt key' es'.toList).run P w = .ok rr w := by simp [Instr.findKey, run_underlying hkd, hrr]
          simp only [Instr.mapUpdate, Sem.run_bind, run_underlying hu, Result.andThen_ok, hget, checkKey_ok hkd hkk hkey, hfk]
          cases rr <;> rfl
        have fin : ∀ (B : Blk) (o : Obj), BR ρ (r < A.ro) L { w with heap := w.heap.setIfInBounds L.blk o } B → Mv P ρ A w ρ (A.put r B) { w with heap := w.heap.setIfInBounds L.blk o } := by
          intro B o hB
          refine hr.turn hb hro hL hB (by simp) (fun k hk => ?_) rfl rfl rfl
          simp only
          rw [Array.getElem?_setIfInBounds_ne (Ne.symm hk)]
        split at h
        · next i v0 hf =>
          cases h
          obtain ⟨r', h3, h4⟩ := find_sound hkk hkey h2 hf
          rcases h4 with ⟨h4, _⟩ | ⟨j, v1, v2, e', h5, h6, h7, h8, h9, h10⟩
          · cases h4
          · cases h5
            subst h6
            have hkeq : ((es'[i]?).map (fun x : MapEntry => x.key)).getD key' = key' := by
              have : es'[i]? = some e' := by simpa using h9
              simp [this, h10]
            have hsame : Instr.sameBits 10000 key' key' = true := by
              unfold keyKind at hkk
              split at hkk <;> first | (cases hkk; done) | (cases hkey; simp [Instr.sameBits, beq_toListBytes])
            refine ⟨_, (by rw [hrun _ h3]; simp only [hkeq, Instr.keyThatStays, hsame, if_true, Sem.run_bind, Sem.run_pure, Result.andThen_ok, hset]; rfl), fin _ _ ⟨es'.modify i fun e => { e with key := key', val := v' }, ?_, ?_⟩⟩
            · simp [hlt]
            · rw [Array.toList_modify]
              refine MERs.modify ?_ h2 i
              intro e e' he
              exact ⟨hkey, hv, he.2.2⟩
        · next hf =>
          cases h
          obtain ⟨r', h3, h4⟩ := find_sound hkk hkey h2 hf
          rcases h4 with ⟨_, h4⟩ | ⟨j, v1, v2, e', h5, _⟩
          · subst h4
            refine ⟨_, (by rw [hrun _ h3]; exact hset _), fin _ _ ⟨es'.push { key := key', val := v', born := clock }, ?_, ?_⟩⟩
            · simp [hlt]
            · rw [Array.toList_push]
              exact h2.push ⟨hkey, hv, rfl⟩
          · cases h5
        · cases h
      · cases h
    · cases h
  · cases h

theorem Rel.first {ρ : Rho} {A : H} {w : World} (hr : Rel P ρ A w) {size n : Nat} {x x' : Value} {cs : List Value} (h : firstCells A size n x = some cs) (hx : VR ρ x x') :
    ∃ r, (∀ w' : World, w'.heap = w.heap → (Builtin.firstCells size n x').run P w' = .ok r w') ∧ VRs ρ cs r.toList := by
  unfold firstCells at h
  split at h
  · next b off len cap =>
    split at h
    · next hle =>
      cases hx with
      | sliceEmpty a a' =>
        have : n = 0 := by omega
        subst this
        unfold H.read at h
        refine ⟨#[], fun _ _ => by simp [Builtin.firstCells, loadCells, loadCellsFrom], ?_⟩
        split at h
        · split at h
          · cases h; simp; exact .nil
          · cases h
        · cases h
      | sliceTopEmpty a a' m =>
        have : n = 0 := by omega
        subst this
        unfold H.read at h
        refine ⟨#[], fun _ _ => by simp [Builtin.firstCells, loadCells, loadCellsFrom], ?_⟩
        split at h
        · split at h
          · cases h; simp; exact .nil
          · cases h
        · cases h
      | slice _ _ _ _ L hc hL => exact hr.read h hL
      | sliceTop _ _ _ _ L hL hl hx' => exact hr.read h hL
    · cases h
  · split at h
    · cases h
      cases hx
      exact ⟨#[], fun _ _ => rfl, .nil⟩
    · cases h
  · next s =>
    split at h
    · cases h
      cases hx
      refine ⟨_, fun _ _ => rfl, ?_⟩
      rw [Array.toList_map]
      generalize (s.extract 0 n).data.toList = l
      induction l with
      | nil => exact .nil
      | cons b bs ih => exact .cons _ _ _ _ (.int _ _) ih
    · cases h
  · cases h

theorem first_length {A : H} {size n : Nat} {x : Value} {cs : List Value} (h : firstCells A size n x = some cs) : cs.length = n * size := by
  unfold firstCells at h
  split at h
  · split at h
    · unfold H.read at h
      split at h
      · split at h
        · cases h; simp; omega
        · cases h
      · cases h
    · cases h
  · split at h
    · next e => cases h; simp [e]
    · cases h
  · next s =>
    split at h
    · next e =>
      cases h
      obtain ⟨rfl, h2⟩ := e
      simp only [List.length_map, Array.length_toList, Nat.mul_one]
      rw [show (s.extract 0 n).data.size = (s.extract 0 n).size from rfl, ByteArray.size_extract]
      omega
    · cases h
  · cases h

theorem lenOf_run {ρ : Rho} {x x' : Value} {n : Nat} (h : lenOf x = some n) (hx : VR ρ x x') (w : World) : (Builtin.lenOf x').run P w = .ok n w := by
  unfold lenOf at h
  split at h
  · cases h; cases hx <;> rfl
  · cases h; cases hx; rfl
  · cases h

theorem growBy_le (need : Nat) : ∀ (r c : Nat), c ≤ Builtin.growBy need r c ∧ Builtin.growBy need r c ≤ (c + 768) * 2 ^ r
  | 0, c => by simp [Builtin.growBy]
  | r + 1, c => by
    unfold Builtin.growBy
    split
    · have : 1 ≤ 2 ^ (r + 1) := Nat.one_le_two_pow
      exact ⟨Nat.le_refl _, by have := Nat.mul_le_mul_left (c + 768) this; omega⟩
    · obtain ⟨h1, h2⟩ := growBy_le need r (c + (c + 768) / 4)
      refine ⟨by omega, Nat.le_trans h2 ?_⟩
      rw [Nat.pow_succ, ← Nat.mul_assoc, Nat.mul_right_comm]
      exact Nat.mul_le_mul_right _ (by omega)

theorem next_le {need old : Nat} (h : old < need) : Builtin.nextslicecap need old ≤ 16 * (need + 768) := by
  unfold Builtin.nextslicecap
  split
  · omega
  · split
    · omega
    · have h2 := (growBy_le need 4 old).2
      rw [show (2 : Nat) ^ 4 = 16 from rfl] at h2
      refine Nat.le_trans h2 ?_
      rw [Nat.mul_comm]
      exact Nat.mul_le_mul_left 16 (by omega)

theorem no_zeros {at_ : Array TypeId} (hz : (match at_[1]? with | some xt => (match P.underlying xt with | some (.int _) => none | some _ => some () | none => none) | none => some () : Option Unit) = some ()) :
    at_[1]? = none ∨ ∃ xt d, at_[1]? = some xt ∧ P.underlying xt = some d ∧ ∀ k, d ≠ .int k := by
  cases h : at_[1]? with
  | none => exact .inl rfl
  | some xt =>
    rw [h] at hz
    simp only at hz
    split at hz
    · cases hz
    · next d hno hd => exact .inr ⟨xt, d, rfl, hd, fun k hk => hno k (by rw [← hk])⟩
    · cases hz

theorem run_append_place {w : World} {at_ : Array TypeId} {type st el : TypeId} {size : Nat} {base : Option Addr} {len cap n : Nat} {x : Value} {args : Array Value}
    (h0 : at_[0]? = some st) (hu : P.underlying st = some (.slice el)) (hi : szOf P el = some size) (ha0 : args[0]? = some (.slice base len cap)) (ha1 : args[1]? = some x)
    (hz : (match at_[1]? with | some xt => (match P.underlying xt with | some (.int _) => none | some _ => some () | none => none) | none => some () : Option Unit) = some ())
    (hl : (Builtin.lenOf x).run P w = .ok n w) (hle : len + n ≤ cap) {new : Array Value} (hnew : (Builtin.firstCells size n x).run P w = .ok new w) :
    (Builtin.append_ at_ type args).run P w = (do
      if let some a := base then storeCells (a.add (len * size)) new.toList
      pure (.slice base (len + n) cap) : Sem Value).run P w := by
  rcases no_zeros hz with h1 | ⟨xt, d, h1, hd, hno⟩
  · unfold Builtin.append_
    simp only [h0, h1, ha0, ha1, Sem.run_bind, run_underlying hu, Result.andThen_ok, run_sz hi, Sem.run_pure, Bool.false_eq_true, if_false, hl, hle, if_true, Bool.not_false, hnew]
    cases base <;> rfl
  · unfold Builtin.append_
    simp only [h0, h1, ha0, ha1, Sem.run_bind, run_underlying hu, run_underlying hd, Result.andThen_ok, run_sz hi, Sem.run_pure]
    cases d <;> first
      | exact absurd rfl (hno _)
      | (simp only [Bool.false_eq_true, if_false, hl, hle, if_true, Bool.not_false, hnew, Sem.run_bind, Result.andThen_ok]; cases base <;> rfl)

theorem run_append_grow {w : World} {at_ : Array TypeId} {type st el : TypeId} {i : TypeInfo} {base : Option Addr} {len cap n : Nat} {x z : Value} {args : Array Value}
    (h0 : at_[0]? = some st) (hu : P.underlying st = some (.slice el)) (hi : P.info? el = some i) (ha0 : args[0]? = some (.slice base len cap)) (ha1 : args[1]? = some x)
    (hz : (match at_[1]? with | some xt => (match P.underlying xt with | some (.int _) => none | some _ => some () | none => none) | none => some () : Option Unit) = some ())
    (hl : (Builtin.lenOf x).run P w = .ok n w) (hgt : cap < len + n) (hb : (len + n) * i.bytes ≤ 2 ^ 40) (hb2 : i.bytes ≤ 2 ^ 20)
    {old new : Array Value} (hold : ∀ k, (Builtin.firstCells i.size len (.slice base len cap)).run P { w with drawn := k } = .ok old { w with drawn := k })
    (hnew : ∀ k, (Builtin.firstCells i.size n x).run P { w with drawn := k } = .ok new { w with drawn := k }) (hzero : zeroOf P el = some z) (hbig : i.bytes = 0 → len + n ≤ 2 ^ 40) :
    ∃ c k, len + n ≤ c ∧
      (Builtin.append_ at_ type args).run P w = .ok (.slice (some ⟨w.heap.size, 0, none⟩) (len + n) c) { w with drawn := k, heap := w.heap.push (.cells (old ++ new ++ Builtin.zeroCells z.cells (c - (len + n))) el) } := by
  have hsz : (sizeOf el).run P w = .ok i.size w := by simp [sizeOf, run_info hi]
  have hnx : ¬ Builtin.nextslicecap (len + n) cap * i.bytes > 2 ^ 48 := by
    have h1 := Nat.mul_le_mul_right i.bytes (next_le hgt)
    rw [Nat.mul_assoc, Nat.add_mul] at h1
    have h2 : 768 * i.bytes ≤ 768 * 2 ^ 20 := Nat.mul_le_mul_left _ hb2
    generalize Builtin.nextslicecap (len + n) cap * i.bytes = y at *
    generalize (len + n) * i.bytes = y2 at *
    omega
  refine ⟨(Question.appendCap (len + n) cap el).cut (w.tape w.drawn (.appendCap (len + n) cap el)), w.drawn + 1, by simp [Question.cut], ?_⟩
  have hle : ¬ len + n ≤ cap := by omega
  have hmax : ¬ (((len + n : Nat) : Int) > IntKind.i64.max ∧ (False ∨ i.bytes = 0)) := by
    rintro ⟨h1, h2⟩
    rcases h2 with h2 | h2
    · cases h2
    · have := hbig h2
      simp only [IntKind.max, IntKind.signed, IntKind.bits, if_true] at h1
      omega
  have hzd := fun k => (run_zero hzero { w with drawn := k }).1
  rcases no_zeros hz with h1 | ⟨xt, d, h1, hd, hno⟩
  · unfold Builtin.append_
    simp only [h0, h1, ha0, ha1, Sem.run_bind, run_underlying hu, Result.andThen_ok, hsz, Sem.run_pure, Bool.false_eq_true, if_false, hl, hle, hmax, run_info hi, hnx, run_choose, Question.forced, run_askRoom, hold, hnew, Bool.not_false, if_true, hzd,
      newRow, run_newObj]
  · unfold Builtin.append_
    simp only [h0, h1, ha0, ha1, Sem.run_bind, run_underlying hu, run_underlying hd, Result.andThen_ok, hsz, Sem.run_pure]
    cases d <;> first
      | exact absurd rfl (hno _)
      | (simp only [Bool.false_eq_true, if_false, hl, hle, hmax, run_info hi, hnx, run_choose, Question.forced, run_askRoom, hold, hnew, Bool.not_false, if_true, hzd, Sem.run_bind, Result.andThen_ok,
           newRow, run_newObj, Sem.run_pure])

/-- A new row of which the first cells are known. -/
theorem Rel.pushPart {ρ : Rho} {A : H} {w : World} (h : Rel P ρ A w) {cs : List Value} {arr : Array Value} (hv : ∀ (i : Nat) (v : Value), cs[i]? = some v → ∃ v', arr[i]? = some v' ∧ VR ρ v v') (el : TypeId) (esz : Nat) :
    Mv P ρ A w (ρ.put A.next ⟨w.heap.size, 0, esz, arr.size⟩) (A.push (.row cs esz)) { w with heap := w.heap.push (.cells arr el) } := by
  refine h.push _ _ _ rfl ⟨rfl, arr, el, (0, 0), ?_, rfl, .inr rfl, fun i v hi => ?_⟩
  · simp
  · obtain ⟨v', h1, h2⟩ := hv i v hi
    exact ⟨v', by simpa using h1, h2⟩

/-- A row goes on under another name. -/
theorem Rel.move {ρ : Rho} {A : H} {w w' : World} (h : Rel P ρ A w) {b : Nat} {cs : List Value} {esz : Nat} (hb : A.get b = some (.row cs esz)) (hro : A.ro ≤ b) {L : Loc} (hL : ρ b = some L) (x : Nat)
    {cs' : List Value} {arr' : Array Value} {el : TypeId} (hw : RowBut L.blk arr' el w w') (hsz : arr'.size = L.tot)
    (hcells : ∀ (i : Nat) (v : Value), cs'[i]? = some v → ∃ v', arr'[x + i]? = some v' ∧ VR ρ v v') :
    Mv P ρ A w (ρ.put A.next ⟨L.blk, x, esz, L.tot⟩) ((A.kill b).push (.row cs' esz)) w' := by
  have hs : Sub ρ (ρ.put A.next ⟨L.blk, x, esz, L.tot⟩) := by
    intro y L' hy
    unfold Rho.put
    split
    · next e => subst e; rw [h.new _ (Nat.le_refl _)] at hy; cases hy
    · exact hy
  have g : ∀ y Y, ((A.kill b).push (.row cs' esz)).get y = some Y → (y = A.next ∧ Y = .row cs' esz) ∨ (y ≠ A.next ∧ y ≠ b ∧ A.get y = some Y) := by
    intro y Y hy
    rw [H.get_push] at hy
    split at hy
    · next e => cases hy; exact .inl ⟨e, rfl⟩
    · next e =>
      rw [H.get_kill] at hy
      split at hy
      · cases hy
      · next e2 => exact .inr ⟨e, e2, hy⟩
  have gr : ∀ y LY, y ≠ A.next → (ρ.put A.next ⟨L.blk, x, esz, L.tot⟩) y = some LY → ρ y = some LY := by
    intro y LY hy h1
    unfold Rho.put at h1
    rw [if_neg hy] at h1
    exact h1
  have gn : ∀ LY, (ρ.put A.next ⟨L.blk, x, esz, L.tot⟩) A.next = some LY → LY = ⟨L.blk, x, esz, L.tot⟩ := by
    intro LY h1; rw [Rho.put_self] at h1; cases h1; rfl
  have hnext : ((A.kill b).push (.row cs' esz)).next = A.next + 1 := rfl
  refine ⟨⟨fun y Y hy => ?_, fun y1 y2 Y1 Y2 L1 L2 h0 h1 h2 h3 h4 h5 => ?_, fun y LY hy => ?_, fun y hy => ?_, Nat.le_succ_of_le h.ro, fun k hk => ?_⟩,
    fun y hy => ?_, Nat.le_succ _, rfl, fun y Y hy hg => ?_, fun y hy hd => by rw [H.get_push, if_neg (show y ≠ (A.kill b).next from Nat.ne_of_lt hy), H.get_kill]; (split; (rfl); (exact hd)), fun y Y LY hy hr hLY => ?_, by rw [hw.size]; exact Nat.le_refl _, fun c hc hno => ?_, hw.tape, hw.os, hw.output⟩
  · rcases g y Y hy with ⟨rfl, rfl⟩ | ⟨h1, h2, h3⟩
    · refine ⟨_, Rho.put_self _ _ _, rfl, arr', el, (0, 0), hw.row, hsz, .inr rfl, fun i v hi => ?_⟩
      obtain ⟨v', h4, h5⟩ := hcells i v hi
      exact ⟨v', h4, h5.mono hs⟩
    · obtain ⟨LY, h4, h5⟩ := h.blk y Y h3
      refine ⟨LY, hs _ _ h4, h5.mono hs id (hw.other _ fun e => h2 ?_)⟩
      exact (h.inj b y _ Y L LY hro hb h3 hL h4 e.symm).symm
  · rcases g y1 Y1 h1 with ⟨e1, e2⟩ | ⟨e1, e2, e3⟩ <;> rcases g y2 Y2 h2 with ⟨f1, f2⟩ | ⟨f1, f2, f3⟩
    · omega
    · subst e1
      have := gn _ h3
      subst this
      exact absurd (h.inj b y2 _ Y2 L L2 hro hb f3 hL (gr _ _ f1 h4) h5).symm f2
    · subst f1
      have := gn _ h4
      subst this
      exact absurd (h.inj b y1 _ Y1 L L1 hro hb e3 hL (gr _ _ e1 h3) h5.symm).symm e2
    · exact h.inj y1 y2 Y1 Y2 L1 L2 h0 e3 f3 (gr _ _ e1 h3) (gr _ _ f1 h4) h5
  · rw [hw.size]
    by_cases e : y = A.next
    · subst e; have := gn _ hy; subst this; exact h.low b L hL
    · exact h.low y LY (gr _ _ e hy)
  · have : A.next + 1 ≤ y := hy
    unfold Rho.put
    rw [if_neg (by omega)]
    exact h.new _ (by omega)
  · obtain ⟨L1, h1, h2⟩ := h.glob k hk
    exact ⟨L1, hs _ _ h1, h2⟩
  · unfold Rho.put; rw [if_neg (by omega)]
  · have := h.ro
    rcases g y Y hg with ⟨e1, _⟩ | ⟨_, _, h3⟩
    · omega
    · exact h3
  · rcases g y Y hy with ⟨rfl, rfl⟩ | ⟨h1, h2, h3⟩
    · have := gn _ hLY
      subst this
      exact .inr ⟨b, _, L, hb, hro, hL, rfl⟩
    · exact .inr ⟨y, Y, LY, h3, hr, gr _ _ h1 hLY, rfl⟩
  · exact hw.other _ fun e => hno b _ L hb hro hL e.symm

end heavy
end Go.Ab

namespace Go.Ab
section heavy
variable {P : Program}

theorem oneCells_of {ρ : Rho} {a b : List Value} (h : VRs ρ a b) (ha : a.all oneCell = true) : b.all oneCell = true := h.oneCells ▸ ha

theorem zeroCells_size (z : Array Value) (n : Nat) : (Builtin.zeroCells z n).size = n * z.size := by simp [Builtin.zeroCells]

theorem VRs.front {ρ : Rho} {a b c d : List Value} (h : VRs ρ a b) (hc : c = b ++ d) : ∀ (i : Nat) (v : Value), a[i]? = some v → ∃ v', c[i]? = some v' ∧ VR ρ v v' := by
  intro i v hi
  obtain ⟨v', h1, h2⟩ := h.get hi
  refine ⟨v', ?_, h2⟩
  rw [hc, List.getElem?_append_left (List.getElem?_eq_some_iff.1 h1).1]
  exact h1

theorem VR.slice_low {ρ : Rho} {base : Option Addr} {len cap : Nat} {s' : Value} (h : VR ρ (.slice base len cap) s') (hc : cap < topCap) :
    (base = none ∧ len = 0 ∧ cap = 0 ∧ s' = .slice none 0 0) ∨ (∃ a a', base = some a ∧ len = 0 ∧ cap = 0 ∧ s' = .slice (some a') 0 0) ∨
      (∃ b off L, base = some ⟨b, off, none⟩ ∧ ρ b = some L ∧ s' = .slice (some ⟨L.blk, L.off0 + off, none⟩) len cap) := by
  cases h with
  | sliceNil => exact .inl ⟨rfl, rfl, rfl, rfl⟩
  | sliceEmpty a a' => exact .inr (.inl ⟨a, a', rfl, rfl, rfl, rfl⟩)
  | slice b off _ _ L h1 h2 => exact .inr (.inr ⟨b, off, L, rfl, h2, rfl⟩)
  | sliceTop => omega
  | sliceTopEmpty => omega

theorem VR.slice_top {ρ : Rho} {base : Option Addr} {len cap : Nat} {s' : Value} (h : VR ρ (.slice base len cap) s') (hc : ¬ cap < topCap) :
    (∃ a a', base = some a ∧ len = 0 ∧ s' = .slice (some a') 0 0) ∨
      (∃ b off L c, base = some ⟨b, off, none⟩ ∧ ρ b = some L ∧ len ≤ c ∧ L.off0 + off + c * L.esz = L.tot ∧ cap = topCap + L.esz ∧ s' = .slice (some ⟨L.blk, L.off0 + off, none⟩) len c) := by
  cases h with
  | sliceNil => exact absurd (by unfold topCap; omega) hc
  | sliceEmpty a a' => exact absurd (by unfold topCap; omega) hc
  | slice b off _ _ L h1 h2 => exact absurd h1 hc
  | sliceTop b off _ c L h1 h2 h3 => exact .inr ⟨b, off, L, c, rfl, h1, h2, h3, rfl, rfl⟩
  | sliceTopEmpty a a' => exact .inl ⟨a, a', rfl, rfl, rfl⟩

theorem append_mv {ρ : Rho} {A A' : H} {w : World} (hr : Rel P ρ A w) {i : TypeInfo} {s x v s' x' z : Value} (h : aAppend A i.size i.bytes s x = some (v, A')) (hs : VR ρ s s') (hx : VR ρ x x')
    {at_ : Array TypeId} {type st el : TypeId} {args : Array Value} (h0 : at_[0]? = some st) (hu : P.underlying st = some (.slice el)) (hi : P.info? el = some i)
    (hz : (match at_[1]? with | some xt => (match P.underlying xt with | some (.int _) => none | some _ => some () | none => none) | none => some () : Option Unit) = some ())
    (hzo : zeroOf P el = some z) (hzs : z.cells.size = i.size) (ha0 : args[0]? = some s') (ha1 : args[1]? = some x') :
    ∃ ρ' v' w', (Builtin.append_ at_ type args).run P w = .ok v' w' ∧ Mv P ρ A w ρ' A' w' ∧ VR ρ' v v' := by
  have hsz : szOf P el = some i.size := by simp [szOf, hi]
  unfold aAppend at h
  split at h
  · next base len cap n hn =>
    split at h
    · next new hnew =>
      obtain ⟨new', hnew1, hnew2⟩ := hr.first hnew hx
      have hnl := first_length hnew
      have hnl' : new'.size = n * i.size := by rw [← hnl, hnew2.length]; simp
      have hlen := lenOf_run hn hx w (P := P)
      -- a new row, whatever the slice was
      have grow : ∀ {A1 : H} {base' : Option Addr} {cap' : Nat} {old : List Value} {old' : Array Value}, s' = .slice base' len cap' → cap' < len + n → (len + n) * i.bytes ≤ 2 ^ 40 → i.bytes ≤ 2 ^ 20 → 0 < i.bytes →
          (∀ w' : World, w'.heap = w.heap → (Builtin.firstCells i.size len s').run P w' = .ok old' w') → VRs ρ old old'.toList → old.length = len * i.size →
          Mv P ρ A w ρ A1 w → ∃ ρ' v' w', (Builtin.append_ at_ type args).run P w = .ok v' w' ∧ Mv P ρ A w ρ' (A1.push (.row (old ++ new) i.size)) w' ∧
            VR ρ' (.slice (some ⟨A1.next, 0, none⟩) (len + n) (topCap + i.size)) v' := by
        intro A1 base' cap' old old' hs' hgt hb1 hb2 hb3 hold1 hold2 hold3 hmv
        subst hs'
        have hol' : old'.size = len * i.size := by rw [← hold3, hold2.length]; simp
        obtain ⟨c, k, hck, hrun⟩ := run_append_grow (type := type) h0 hu hi ha0 ha1 hz hlen hgt hb1 hb2 (fun k => hold1 _ rfl) (fun k => hnew1 _ rfl) hzo (fun e => by omega)
        have hsize : (old' ++ new' ++ Builtin.zeroCells z.cells (c - (len + n))).size = c * i.size := by
          rw [Array.size_append, Array.size_append, zeroCells_size, hol', hnl', hzs, ← Nat.add_mul, ← Nat.add_mul]
          congr 1; omega
        refine ⟨_, _, _, hrun, hmv.trans ((Mv.draw hmv.rel k).trans ((hmv.rel.draw k).pushPart (cs := old ++ new) (arr := old' ++ new' ++ Builtin.zeroCells z.cells (c - (len + n))) ?_ el i.size)), ?_⟩
        · intro j v hj
          obtain ⟨v', h1, h2⟩ := (hold2.append hnew2).front (c := (old' ++ new' ++ Builtin.zeroCells z.cells (c - (len + n))).toList) (d := (Builtin.zeroCells z.cells (c - (len + n))).toList) (by simp) j v hj
          exact ⟨v', by rw [← Array.getElem?_toList]; exact h1, h2⟩
        · refine .sliceTop A1.next 0 (len + n) c ⟨w.heap.size, 0, i.size, _⟩ (Rho.put_self _ _ _) hck ?_
          simp only [hsize]; omega
      split at h
      · next hc =>
        -- in place, the capacity known
        obtain ⟨hc1, hc2⟩ := hc
        have place : ∀ {base' : Option Addr}, s' = .slice base' len cap → (Builtin.append_ at_ type args).run P w = (do
            if let some a := base' then storeCells (a.add (len * i.size)) new'.toList
            pure (.slice base' (len + n) cap) : Sem Value).run P w := by
          intro base' hs'
          subst hs'
          exact run_append_place h0 hu hsz ha0 ha1 hz hlen hc1 (hnew1 w rfl) (type := type)
        rcases VR.slice_low hs hc2 with ⟨rfl, rfl, rfl, rfl⟩ | ⟨a, a', rfl, rfl, rfl, rfl⟩ | ⟨b, off, L, rfl, hL, rfl⟩
        · simp only at h
          split at h
          · next hn0 =>
            cases h
            subst hn0
            exact ⟨ρ, _, w, by rw [place rfl]; rfl, Mv.refl hr, hs⟩
          · cases h
        · have hn0 : n = 0 := by omega
          subst hn0
          have hnil : new'.toList = [] := by apply List.length_eq_zero_iff.1; simpa using hnl'
          split at h
          · next heq => cases heq
          · simp only [if_true] at h
            cases h
            exact ⟨ρ, _, w, by rw [place rfl]; simp [hnil, storeCells], Mv.refl hr, hs⟩
          · cases h
        · simp only at h
          split at h
          · next hn0 =>
            cases h
            subst hn0
            have hnil : new'.toList = [] := by apply List.length_eq_zero_iff.1; simpa using hnl'
            exact ⟨ρ, _, w, by rw [place rfl]; simp [hnil, storeCells], Mv.refl hr, hs⟩
          · split at h
            · next A1 hw =>
              cases h
              obtain ⟨w', h3, h4⟩ := hr.write hw hnew2 hL
              refine ⟨ρ, _, w', ?_, h4, .slice b off _ cap L hc2 hL⟩
              rw [place rfl]
              simp only [Sem.run_bind, addr_add, Nat.add_assoc, h3, Result.andThen_ok, Sem.run_pure]
            · cases h
      · next hc =>
        split at h
        · next hc2 =>
          -- it grows, for sure
          split at h
          · next hcond =>
            obtain ⟨hb1, hb2, hb3, hb4, hb5⟩ := hcond
            split at h
            · next old hold =>
              cases h
              have hgt : cap < len + n := by omega
              obtain ⟨old', hold1, hold2⟩ := hr.first hold hs
              rcases VR.slice_low hs hc2 with ⟨rfl, rfl, rfl, rfl⟩ | ⟨a, a', rfl, rfl, rfl, rfl⟩ | ⟨b, off, L, rfl, hL, rfl⟩
              · exact grow rfl hgt hb1 hb2 hb3 hold1 hold2 (first_length hold) (Mv.refl hr)
              · exact grow rfl hgt hb1 hb2 hb3 hold1 hold2 (first_length hold) (Mv.refl hr)
              · exact grow rfl hgt hb1 hb2 hb3 hold1 hold2 (first_length hold) (Mv.refl hr)
            · cases h
          · cases h
        · next hc2 =>
          split at h
          · next b off =>
            split at h
            · next cs esz hb =>
              split at h
              · next hcond =>
                obtain ⟨k0, rfl, k2, k3, k4, k5, k6, k7, k8⟩ := hcond
                cases h
                obtain ⟨L0, hL0, hesz, arr, elt, fz, g1, g2, g3, g4⟩ := hr.blk b _ hb
                have hfz : fz = (0, 0) := g3.resolve_left (by omega)
                subst hfz
                rcases VR.slice_top hs hc2 with ⟨a, a', ha, hl0, rfl⟩ | ⟨b', off', L, c, ha, hL, hlc, htot, hcap, rfl⟩
                · subst hl0
                  simp only [Nat.zero_mul, Nat.add_zero, List.take_zero, List.nil_append, Nat.zero_add] at k4 ⊢
                  by_cases hn0 : n = 0
                  · subst hn0
                    have hnil : new'.toList = [] := by apply List.length_eq_zero_iff.1; simpa using hnl'
                    have hnil2 : new = [] := by apply List.length_eq_zero_iff.1; simpa using hnl
                    have hrun := run_append_place h0 hu hsz ha0 ha1 hz hlen (Nat.le_refl _) (hnew1 w rfl) (type := type)
                    subst hnil2
                    refine ⟨_, .slice (some a') 0 0, w, by rw [hrun]; simp [hnil, storeCells], hr.move hb k3 hL0 0 (arr' := arr) (el := elt) ⟨g1, rfl, fun _ _ => rfl, rfl, rfl, rfl⟩ g2 (fun i v hi => by simp at hi), .sliceTopEmpty _ _ _⟩
                  · have := grow (A1 := A.kill b) (old := []) (old' := #[]) rfl (by omega) (by simpa using k5) k6 k7 (fun _ _ => by simp [Builtin.firstCells, loadCells, loadCellsFrom]) .nil (by simp) (hr.kill k3)
                    simpa [H.kill] using this
                · cases ha
                  rw [hL0] at hL
                  cases hL
                  have hold : ∀ (j : Nat) (v : Value), ((cs.drop off).take (len * i.size))[j]? = some v → j < len * i.size ∧ cs[off + j]? = some v := by
                    intro j v hj
                    rw [List.getElem?_take] at hj
                    split at hj
                    · next hjl => rw [List.getElem?_drop] at hj; exact ⟨hjl, hj⟩
                    · cases hj
                  by_cases hfit : len + n ≤ c
                  · -- there is room
                    have hroom : L0.off0 + off + (len + n) * i.size ≤ arr.size := by
                      rw [g2, ← htot]
                      rw [hesz]
                      have := Nat.mul_le_mul_right i.size hfit
                      omega
                    rw [Nat.add_mul] at hroom
                    obtain ⟨w', arr', h6, h7, h8, h9⟩ := run_storeCells (P := P) new'.toList 0 (x := L0.off0 + off + len * i.size) g1 (by simp [hnl']; omega) (oneCells_of hnew2 k8)
                    have hrun := run_append_place h0 hu hsz ha0 ha1 hz hlen hfit (hnew1 w rfl) (type := type)
                    have hnl2 : new'.toList.length = n * i.size := by simpa using hnl'
                    refine ⟨_, .slice (some ⟨L0.blk, L0.off0 + off, none⟩) (len + n) c, w', ?_, hr.move hb k3 hL0 (L0.off0 + off) (cs' := (cs.drop off).take (len * i.size) ++ new) h7 (h8.trans g2) ?_, ?_⟩
                    · rw [hrun]
                      simp only [Sem.run_bind, addr_add, h6, Result.andThen_ok, Sem.run_pure]
                    · intro j v hj
                      by_cases hjl : j < ((cs.drop off).take (len * i.size)).length
                      · rw [List.getElem?_append_left hjl] at hj
                        obtain ⟨hj1, hj2⟩ := hold j v hj
                        obtain ⟨v', h10, h11⟩ := g4 _ _ hj2
                        refine ⟨v', ?_, h11⟩
                        rw [h9, if_neg (by omega), ← h10]
                        simp [Nat.add_assoc]
                      · rw [List.getElem?_append_right (by omega)] at hj
                        have hll : ((cs.drop off).take (len * i.size)).length = len * i.size := by simp; omega
                        rw [hll] at hj hjl
                        obtain ⟨v', h10, h11⟩ := hnew2.get hj
                        have hlt := (List.getElem?_eq_some_iff.1 h10).1
                        refine ⟨v', ?_, h11⟩
                        rw [h9, if_pos (by omega), ← h10]
                        congr 1
                        omega
                    · have := VR.sliceTop (ρ := ρ.put A.next ⟨L0.blk, L0.off0 + off, i.size, L0.tot⟩) A.next 0 (len + n) c _ (Rho.put_self _ _ _) hfit (by rw [hesz] at htot; simpa using htot)
                      simpa [H.kill] using this
                  · -- there is none
                    have hread : A.read b off (len * i.size) = some ((cs.drop off).take (len * i.size)) := by
                      unfold H.read; rw [hb]; simp [k4]
                    obtain ⟨old', hold1, hold2⟩ := hr.read hread hL0
                    exact grow (A1 := A.kill b) rfl (by omega) k5 k6 k7 hold1 hold2 (by simp; omega) (hr.kill k3)
              · cases h
            · cases h
          · cases h
    · cases h
  · cases h

end heavy
end Go.Ab
