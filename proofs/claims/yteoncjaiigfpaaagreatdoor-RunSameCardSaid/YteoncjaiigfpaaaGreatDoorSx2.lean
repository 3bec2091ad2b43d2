import Derived.Test.YteoncjaiigfpaaaGreatDoorSx1
import Derived.IntWalk
set_option linter.all false
namespace Go.Ab

/-- What is needed of a type. -/
inductive TyD where
  | int (k : IntKind) | bool | string
  | struct (fs : List (Nat × Nat × Bool))
  | array (n esz : Nat) (agg : Bool)
  | slice (e esz : Nat) (agg : Bool) (bytes : Nat)
  | pointer
  | map (k e : TypeId)
  | func | interface | other
  deriving DecidableEq

structure TyI where
  d : TyD
  size : Nat
  agg : Bool
  zero : Option (List Value)

section
variable (P : Program)

def partTy (t : TypeId) : Option (Nat × Bool) := match P.underlying t, szOf P t with
  | some d, some n => some (n, isAggD d)
  | _, _ => none
def fieldsTy : List Field → Option (List (Nat × Nat × Bool))
  | [] => some []
  | f :: fs => match partTy P f.type, fieldsTy fs with
    | some (n, b), some l => some ((f.offset, n, b) :: l)
    | _, _ => none
/-- Is a zero as long as it is large? -/
def zeroTy (t : TypeId) : Option (List Value) := match zeroOf P t, szOf P t with
  | some z, some n => if z.cells.size = n then some z.cells.toList else none
  | _, _ => none
def tyD (d : TypeDesc) : Option TyD := match d with
  | .int k => some (.int k)
  | .bool => some .bool
  | .string => some .string
  | .struct fs => (fieldsTy P fs.toList).map .struct
  | .array n e => (partTy P e).map fun (s, b) => .array n s b
  | .slice e => match partTy P e, P.info? e with
    | some (s, b), some i => if i.size = s then some (.slice e s b i.bytes) else none
    | _, _ => none
  | .pointer _ => some .pointer
  | .map k e => some (.map k e)
  | .func _ _ _ => some .func
  | .interface _ => some .interface
  | _ => some .other
def tyOf (t : TypeId) : Option TyI := match P.underlying t, szOf P t with
  | some d, some n => (tyD P d).map fun td => ⟨td, n, isAggD d, zeroTy P t⟩
  | _, _ => none
variable {P : Program}

theorem ty_parts {t : TypeId} {x : TyI} (h : tyOf P t = some x) : ∃ d, P.underlying t = some d ∧ szOf P t = some x.size ∧ isAggD d = x.agg ∧ tyD P d = some x.d ∧ zeroTy P t = x.zero := by
  unfold tyOf at h
  split at h
  · next d n hd hn =>
    cases ht : tyD P d with
    | none => rw [ht] at h; cases h
    | some td => rw [ht] at h; cases h; exact ⟨d, hd, hn, rfl, ht, rfl⟩
  · cases h

theorem part_ty {t : TypeId} {n : Nat} {b : Bool} (h : partTy P t = some (n, b)) : ∃ d, P.underlying t = some d ∧ szOf P t = some n ∧ isAggD d = b := by
  unfold partTy at h
  split at h
  · next d n' hd hn => cases h; exact ⟨d, hd, hn, rfl⟩
  · cases h

theorem fields_ty : ∀ {fs : List Field} {l : List (Nat × Nat × Bool)}, fieldsTy P fs = some l → ∀ {i : Nat} {o n : Nat} {b : Bool}, l[i]? = some (o, n, b) → ∃ f, fs[i]? = some f ∧ f.offset = o ∧ partTy P f.type = some (n, b)
  | [], l, h, i, o, n, b, hi => by cases h; simp at hi
  | f :: fs, l, h, i, o, n, b, hi => by
    unfold fieldsTy at h
    split at h
    · next n' b' l' h1 h2 =>
      cases h
      cases i with
      | zero => simp at hi; obtain ⟨rfl, rfl, rfl⟩ := hi; exact ⟨f, rfl, rfl, h1⟩
      | succ i => simp at hi; obtain ⟨g, hg⟩ := fields_ty h2 hi; exact ⟨g, by simpa using hg.1, hg.2⟩
    · cases h

theorem ty_struct {t : TypeId} {fs : List (Nat × Nat × Bool)} {s : Nat} {b : Bool} {z : Option (List Value)} (h : tyOf P t = some ⟨.struct fs, s, b, z⟩) {i o n : Nat} {c : Bool} (hi : fs[i]? = some (o, n, c)) :
    ∃ fa f, P.underlying t = some (.struct fa) ∧ fa[i]? = some f ∧ f.offset = o ∧ partTy P f.type = some (n, c) := by
  obtain ⟨d, h1, h2, h3, h4, h5⟩ := ty_parts h
  unfold tyD at h4
  cases d
  case struct fa =>
    simp only at h4
    cases hf : fieldsTy P fa.toList with
    | none => rw [hf] at h4; cases h4
    | some l =>
      rw [hf] at h4
      simp only [Option.map_some, Option.some.injEq, TyD.struct.injEq] at h4
      subst h4
      obtain ⟨f, g1, g2, g3⟩ := fields_ty hf hi
      exact ⟨fa, f, h1, by simpa using g1, g2, g3⟩
  case slice e => simp only at h4; split at h4 <;> (try split at h4) <;> first | cases h4 | (simp at h4)
  case array n e => simp only at h4; cases hp : partTy P e <;> rw [hp] at h4 <;> simp at h4
  all_goals simp at h4

theorem ty_slice {t : TypeId} {e esz : Nat} {b c : Bool} {by_ s : Nat} {z : Option (List Value)} (h : tyOf P t = some ⟨.slice e esz b by_, s, c, z⟩) :
    P.underlying t = some (.slice e) ∧ szOf P e = some esz ∧ (∃ d, P.underlying e = some d ∧ isAggD d = b) ∧ ∃ i, P.info? e = some i ∧ i.size = esz ∧ i.bytes = by_ := by
  obtain ⟨d, h1, h2, h3, h4, h5⟩ := ty_parts h
  unfold tyD at h4
  cases d
  case slice e' =>
    simp only at h4
    split at h4
    · next s' b' i hp hi =>
      split at h4
      · next hs =>
        cases h4
        obtain ⟨dd, g1, g2, g3⟩ := part_ty hp
        exact ⟨h1, g2, ⟨dd, g1, g3⟩, i, hi, hs, rfl⟩
      · cases h4
    · cases h4
  case struct fa => simp only at h4; cases hp : fieldsTy P fa.toList <;> rw [hp] at h4 <;> simp at h4
  case array n e => simp only at h4; cases hp : partTy P e <;> rw [hp] at h4 <;> simp at h4
  all_goals simp at h4

theorem ty_array {t : TypeId} {n esz : Nat} {b c : Bool} {s : Nat} {z : Option (List Value)} (h : tyOf P t = some ⟨.array n esz b, s, c, z⟩) :
    ∃ e, P.underlying t = some (.array n e) ∧ szOf P e = some esz ∧ ∃ d, P.underlying e = some d ∧ isAggD d = b := by
  obtain ⟨d, h1, h2, h3, h4, h5⟩ := ty_parts h
  unfold tyD at h4
  cases d
  case array n' e' =>
    simp only at h4
    cases hp : partTy P e' with
    | none => rw [hp] at h4; cases h4
    | some q =>
      rw [hp] at h4
      obtain ⟨s', b'⟩ := q
      simp only [Option.map_some, Option.some.injEq, TyD.array.injEq] at h4
      obtain ⟨rfl, rfl, rfl⟩ := h4
      obtain ⟨dd, g1, g2, g3⟩ := part_ty hp
      exact ⟨e', h1, g2, dd, g1, g3⟩
  case slice e => simp only at h4; split at h4 <;> (try split at h4) <;> first | cases h4 | (simp at h4)
  case struct fa => simp only at h4; cases hp : fieldsTy P fa.toList <;> rw [hp] at h4 <;> simp at h4
  all_goals simp at h4

def plainTy (P : Program) (t : TypeId) (x : TyD) : Prop := match x with
  | .int k => P.underlying t = some (.int k)
  | .bool => P.underlying t = some .bool
  | .string => P.underlying t = some .string
  | .pointer => ∃ e, P.underlying t = some (.pointer e)
  | .map k e => P.underlying t = some (.map k e)
  | .func => ∃ a b v, P.underlying t = some (.func a b v)
  | .interface => ∃ m, P.underlying t = some (.interface m)
  | _ => True
theorem ty_plain {t : TypeId} {x : TyI} (h : tyOf P t = some x) : plainTy P t x.d := by
  obtain ⟨d, h1, h2, h3, h4, h5⟩ := ty_parts h
  unfold tyD at h4
  unfold plainTy
  cases d
  case slice e => simp only at h4; split at h4 <;> (try split at h4) <;> first | cases h4 | (simp at h4; try rw [← h4]; trivial) | (rw [← Option.some.inj h4]; trivial)
  case struct fa => simp only at h4; cases hp : fieldsTy P fa.toList <;> rw [hp] at h4 <;> simp at h4; rw [← h4]; trivial
  case array n e => simp only at h4; cases hp : partTy P e <;> rw [hp] at h4 <;> simp at h4; rw [← h4]; trivial
  all_goals (simp at h4; rw [← h4]; first | exact h1 | exact ⟨_, h1⟩ | exact ⟨_, _, _, h1⟩ | trivial)
theorem ty_int {t : TypeId} {k : IntKind} {s : Nat} {c : Bool} {z : Option (List Value)} (h : tyOf P t = some ⟨.int k, s, c, z⟩) : P.underlying t = some (.int k) := ty_plain h
theorem ty_bool {t : TypeId} {s : Nat} {c : Bool} {z : Option (List Value)} (h : tyOf P t = some ⟨.bool, s, c, z⟩) : P.underlying t = some .bool := ty_plain h
theorem ty_string {t : TypeId} {s : Nat} {c : Bool} {z : Option (List Value)} (h : tyOf P t = some ⟨.string, s, c, z⟩) : P.underlying t = some .string := ty_plain h
theorem ty_pointer {t : TypeId} {s : Nat} {c : Bool} {z : Option (List Value)} (h : tyOf P t = some ⟨.pointer, s, c, z⟩) : ∃ e, P.underlying t = some (.pointer e) := ty_plain h
theorem ty_map {t k e : TypeId} {s : Nat} {c : Bool} {z : Option (List Value)} (h : tyOf P t = some ⟨.map k e, s, c, z⟩) : P.underlying t = some (.map k e) := ty_plain h
theorem ty_func {t : TypeId} {s : Nat} {c : Bool} {z : Option (List Value)} (h : tyOf P t = some ⟨.func, s, c, z⟩) : ∃ a b v, P.underlying t = some (.func a b v) := ty_plain h
theorem ty_interface {t : TypeId} {s : Nat} {c : Bool} {z : Option (List Value)} (h : tyOf P t = some ⟨.interface, s, c, z⟩) : ∃ m, P.underlying t = some (.interface m) := ty_plain h

theorem ty_notif {t : TypeId} {x : TyI} (h : tyOf P t = some x) (hx : x.d ≠ .interface) : ∃ d, P.underlying t = some d ∧ ∀ m, d ≠ .interface m := by
  obtain ⟨d, h1, h2, h3, h4, h5⟩ := ty_parts h
  refine ⟨d, h1, fun m e => ?_⟩
  subst e
  simp [tyD] at h4
  exact hx h4.symm

theorem zero_ty {t : TypeId} {l : List Value} (h : zeroTy P t = some l) : ∃ z, zeroOf P t = some z ∧ z.cells.toList = l ∧ szOf P t = some l.length := by
  unfold zeroTy at h
  split at h
  · next z n hz hn =>
    split at h
    · next hs => cases h; exact ⟨z, hz, rfl, by rw [hn, ← hs]; simp⟩
    · cases h
  · cases h

theorem part_field {f : Field} {n : Nat} {b : Bool} (h : partTy P f.type = some (n, b)) (cs : List Value) (off : Nat) :
    aPart P f.type cs off = if b then some (.agg ((cs.drop off).take n).toArray) else cs[off]? := by
  obtain ⟨d, h1, h2, h3⟩ := part_ty h
  unfold aPart
  rw [h1, h2]
  simp only [h3]

def takeAt (cs : List Value) (off n : Nat) : Option (List Value) := if off + n ≤ cs.length then some ((cs.drop off).take n) else none

section light
variable {dst : Option Tmp} {ty : TypeId} {pos : String} {after : Array Edge} {g : Option (Nat × Bool)} {e : Env}

theorem wl_move {x : Operand} {v : Value} (h : evE P e x = some v) : WL P ⟨dst, .move x, ty, pos, after, g⟩ e v := fun ev hv => by
  simp only [aLight, hv x v (by simp [Op.operands]) h, Option.map_some]
theorem wl_assign {x : Operand} {v : Value} (h : evE P e x = some v) : WL P ⟨dst, .assign x, ty, pos, after, g⟩ e v := fun ev hv => by
  simp only [aLight, hv x v (by simp [Op.operands]) h, Option.map_some]
theorem wl_pick_t {c a b : Operand} {v : Value} (hc : evE P e c = some (.bool true)) (h : evE P e a = some v) : WL P ⟨dst, .pick c a b, ty, pos, after, g⟩ e v := fun ev hv => by
  simp only [aLight, hv c _ (by simp [Op.operands]) hc, hv a v (by simp [Op.operands]) h, Option.map_some]
theorem wl_pick_f {c a b : Operand} {v : Value} (hc : evE P e c = some (.bool false)) (h : evE P e b = some v) : WL P ⟨dst, .pick c a b, ty, pos, after, g⟩ e v := fun ev hv => by
  simp only [aLight, hv c _ (by simp [Op.operands]) hc, hv b v (by simp [Op.operands]) h, Option.map_some]

theorem wl_int {op : BinOp} {t u : TypeId} {x y : Operand} {k : IntKind} {a b : Int} {v : Value} (hx : evE P e x = some (.int k a)) (hy : evE P e y = some (.int k b))
    (hv : aBin P op t x y (.int k a) (.int k b) = some (.val v)) : WL P ⟨dst, .binOp op t x y u, ty, pos, after, g⟩ e v := fun ev h => by
  simp only [aLight, h x _ (by simp [Op.operands]) hx, h y _ (by simp [Op.operands]) hy, hv]

theorem bin_int {op : BinOp} {t : TypeId} {x y : Operand} {k : IntKind} {a b : Int} {r : Option OR} (h : aInt P op k a b = r) (hs : op ≠ .shl) (hr : op ≠ .shr) : aBin P op t x y (.int k a) (.int k b) = r := by
  cases op <;> first | exact absurd rfl hs | exact absurd rfl hr | (simp only [aBin, if_true]; exact h)

theorem wl_add {t u : TypeId} {x y : Operand} {k : IntKind} {a b : Int} (hx : evE P e x = some (.int k a)) (hy : evE P e y = some (.int k b)) : WL P ⟨dst, .binOp .add t x y u, ty, pos, after, g⟩ e (.int k (k.wrap (a + b))) :=
  wl_int hx hy (bin_int rfl (by simp) (by simp))
theorem wl_sub {t u : TypeId} {x y : Operand} {k : IntKind} {a b : Int} (hx : evE P e x = some (.int k a)) (hy : evE P e y = some (.int k b)) : WL P ⟨dst, .binOp .sub t x y u, ty, pos, after, g⟩ e (.int k (k.wrap (a - b))) :=
  wl_int hx hy (bin_int rfl (by simp) (by simp))
theorem wl_mul {t u : TypeId} {x y : Operand} {k : IntKind} {a b : Int} (hx : evE P e x = some (.int k a)) (hy : evE P e y = some (.int k b)) : WL P ⟨dst, .binOp .mul t x y u, ty, pos, after, g⟩ e (.int k (k.wrap (a * b))) :=
  wl_int hx hy (bin_int rfl (by simp) (by simp))
theorem wl_add64 {t u : TypeId} {x y : Operand} {a b : Int} (hx : evE P e x = some (.int .i64 a)) (hy : evE P e y = some (.int .i64 b)) (h : -9223372036854775808 ≤ a + b ∧ a + b ≤ 9223372036854775807) : WL P ⟨dst, .binOp .add t x y u, ty, pos, after, g⟩ e (.int .i64 (a + b)) := by
  have := wl_add (P := P) (dst := dst) (ty := ty) (pos := pos) (after := after) (g := g) (t := t) (u := u) hx hy
  rwa [IntWalk.i64_in _ h] at this
theorem wl_sub64 {t u : TypeId} {x y : Operand} {a b : Int} (hx : evE P e x = some (.int .i64 a)) (hy : evE P e y = some (.int .i64 b)) (h : -9223372036854775808 ≤ a - b ∧ a - b ≤ 9223372036854775807) : WL P ⟨dst, .binOp .sub t x y u, ty, pos, after, g⟩ e (.int .i64 (a - b)) := by
  have := wl_sub (P := P) (dst := dst) (ty := ty) (pos := pos) (after := after) (g := g) (t := t) (u := u) hx hy
  rwa [IntWalk.i64_in _ h] at this
theorem wl_mul64 {t u : TypeId} {x y : Operand} {a b : Int} (hx : evE P e x = some (.int .i64 a)) (hy : evE P e y = some (.int .i64 b)) (h : -9223372036854775808 ≤ a * b ∧ a * b ≤ 9223372036854775807) : WL P ⟨dst, .binOp .mul t x y u, ty, pos, after, g⟩ e (.int .i64 (a * b)) := by
  have := wl_mul (P := P) (dst := dst) (ty := ty) (pos := pos) (after := after) (g := g) (t := t) (u := u) hx hy
  rwa [IntWalk.i64_in _ h] at this
theorem wl_quo {t u : TypeId} {x y : Operand} {k : IntKind} {a b : Int} (hx : evE P e x = some (.int k a)) (hy : evE P e y = some (.int k b)) (hb : b ≠ 0) : WL P ⟨dst, .binOp .quo t x y u, ty, pos, after, g⟩ e (.int k (k.wrap (a.tdiv b))) :=
  wl_int hx hy (bin_int (by simp only [aInt, if_neg hb]) (by simp) (by simp))
theorem wl_rem {t u : TypeId} {x y : Operand} {k : IntKind} {a b : Int} (hx : evE P e x = some (.int k a)) (hy : evE P e y = some (.int k b)) (hb : b ≠ 0) : WL P ⟨dst, .binOp .rem t x y u, ty, pos, after, g⟩ e (.int k (a.tmod b)) :=
  wl_int hx hy (bin_int (by simp only [aInt, if_neg hb]) (by simp) (by simp))
theorem wl_eql {t u : TypeId} {x y : Operand} {k : IntKind} {a b : Int} (hx : evE P e x = some (.int k a)) (hy : evE P e y = some (.int k b)) : WL P ⟨dst, .binOp .eql t x y u, ty, pos, after, g⟩ e (.bool (decide (a = b))) :=
  wl_int hx hy (bin_int rfl (by simp) (by simp))
theorem wl_neq {t u : TypeId} {x y : Operand} {k : IntKind} {a b : Int} (hx : evE P e x = some (.int k a)) (hy : evE P e y = some (.int k b)) : WL P ⟨dst, .binOp .neq t x y u, ty, pos, after, g⟩ e (.bool (decide (a ≠ b))) :=
  wl_int hx hy (bin_int (by simp [aInt, boolV, bne, BEq.beq]) (by simp) (by simp))
theorem wl_lss {t u : TypeId} {x y : Operand} {k : IntKind} {a b : Int} (hx : evE P e x = some (.int k a)) (hy : evE P e y = some (.int k b)) : WL P ⟨dst, .binOp .lss t x y u, ty, pos, after, g⟩ e (.bool (decide (a < b))) :=
  wl_int hx hy (bin_int rfl (by simp) (by simp))
theorem wl_leq {t u : TypeId} {x y : Operand} {k : IntKind} {a b : Int} (hx : evE P e x = some (.int k a)) (hy : evE P e y = some (.int k b)) : WL P ⟨dst, .binOp .leq t x y u, ty, pos, after, g⟩ e (.bool (decide (a ≤ b))) :=
  wl_int hx hy (bin_int rfl (by simp) (by simp))
theorem wl_gtr {t u : TypeId} {x y : Operand} {k : IntKind} {a b : Int} (hx : evE P e x = some (.int k a)) (hy : evE P e y = some (.int k b)) : WL P ⟨dst, .binOp .gtr t x y u, ty, pos, after, g⟩ e (.bool (decide (b < a))) :=
  wl_int hx hy (bin_int rfl (by simp) (by simp))
theorem wl_geq {t u : TypeId} {x y : Operand} {k : IntKind} {a b : Int} (hx : evE P e x = some (.int k a)) (hy : evE P e y = some (.int k b)) : WL P ⟨dst, .binOp .geq t x y u, ty, pos, after, g⟩ e (.bool (decide (b ≤ a))) :=
  wl_int hx hy (bin_int rfl (by simp) (by simp))
theorem wl_bits {op : BinOp} {t u : TypeId} {x y : Operand} {k : IntKind} {a b : Int} {v : Value} (hx : evE P e x = some (.int k a)) (hy : evE P e y = some (.int k b)) (h : aInt P op k a b = some (.val v)) (hs : op ≠ .shl) (hr : op ≠ .shr) : WL P ⟨dst, .binOp op t x y u, ty, pos, after, g⟩ e v :=
  wl_int hx hy (bin_int h hs hr)
theorem wl_shl {t u : TypeId} {x y : Operand} {k k' : IntKind} {a b : Int} (hx : evE P e x = some (.int k a)) (hy : evE P e y = some (.int k' b)) (hb : 0 ≤ b) : WL P ⟨dst, .binOp .shl t x y u, ty, pos, after, g⟩ e (.int k (k.wrap (a * 2 ^ (min b.toNat k.bits)))) := fun ev h => by
  simp only [aLight, h x _ (by simp [Op.operands]) hx, h y _ (by simp [Op.operands]) hy, aBin, if_neg (show ¬ b < 0 by omega)]
theorem wl_shr {t u : TypeId} {x y : Operand} {k k' : IntKind} {a b : Int} (hx : evE P e x = some (.int k a)) (hy : evE P e y = some (.int k' b)) (hb : 0 ≤ b) : WL P ⟨dst, .binOp .shr t x y u, ty, pos, after, g⟩ e (.int k (a.fdiv (2 ^ (min b.toNat k.bits)))) := fun ev h => by
  simp only [aLight, h x _ (by simp [Op.operands]) hx, h y _ (by simp [Op.operands]) hy, aBin, if_neg (show ¬ b < 0 by omega)]

/-- == of values that are no numbers. -/
theorem wl_eqv {t u : TypeId} {x y : Operand} {a b : Value} {r : Bool} (hx : evE P e x = some a) (hy : evE P e y = some b) (ha : ∀ k n, a ≠ .int k n) (h : aEql P t x y a b = some r) : WL P ⟨dst, .binOp .eql t x y u, ty, pos, after, g⟩ e (.bool r) := fun ev hv => by
  simp only [aLight, hv x _ (by simp [Op.operands]) hx, hv y _ (by simp [Op.operands]) hy]
  unfold aBin
  split
  · exact absurd rfl (ha _ _)
  · simp [h]
theorem wl_nev {t u : TypeId} {x y : Operand} {a b : Value} {r : Bool} (hx : evE P e x = some a) (hy : evE P e y = some b) (ha : ∀ k n, a ≠ .int k n) (h : aEql P t x y a b = some r) : WL P ⟨dst, .binOp .neq t x y u, ty, pos, after, g⟩ e (.bool (!r)) := fun ev hv => by
  simp only [aLight, hv x _ (by simp [Op.operands]) hx, hv y _ (by simp [Op.operands]) hy]
  unfold aBin
  split
  · exact absurd rfl (ha _ _)
  · simp [h]
theorem eql_bool {t : TypeId} {x y : Operand} {a b : Bool} {s : Nat} {c : Bool} {z : Option (List Value)} (h : tyOf P t = some ⟨.bool, s, c, z⟩) : aEql P t x y (.bool a) (.bool b) = some (a == b) := by
  simp only [aEql, ty_bool h, nilEq]
theorem eql_string {t : TypeId} {x y : Operand} {a b : ByteArray} {s : Nat} {c : Bool} {z : Option (List Value)} (h : tyOf P t = some ⟨.string, s, c, z⟩) : aEql P t x y (.string a) (.string b) = some (a.toList == b.toList) := by
  simp only [aEql, ty_string h]
theorem eql_slice_nil {t : TypeId} {x y : Operand} {a : Option Addr} {n m : Nat} {el es : Nat} {ag : Bool} {by_ : Nat} {s : Nat} {c : Bool} {z : Option (List Value)} (h : tyOf P t = some ⟨.slice el es ag by_, s, c, z⟩) : aEql P t x y (.slice a n m) (.slice none 0 0) = some a.isNone := by
  simp only [aEql, (ty_slice h).1]
  cases a <;> simp [nilEq]
theorem eql_func_nil {t : TypeId} {x y : Operand} {fn : Fn} {a b : Array Value} {s : Nat} {c : Bool} {z : Option (List Value)} (h : tyOf P t = some ⟨.func, s, c, z⟩) : aEql P t x y (.func fn a b) .nilFunc = some false := by
  obtain ⟨p, q, v, h1⟩ := ty_func h
  simp only [aEql, h1, nilEq]
theorem eql_nil_func {t : TypeId} {x y : Operand} {s : Nat} {c : Bool} {z : Option (List Value)} (h : tyOf P t = some ⟨.func, s, c, z⟩) : aEql P t x y .nilFunc .nilFunc = some true := by
  obtain ⟨p, q, v, h1⟩ := ty_func h
  simp only [aEql, h1, nilEq]
theorem eql_iface_nil {t : TypeId} {x y : Operand} {i : TypeId} {a : Value} {s : Nat} {c : Bool} {z : Option (List Value)} (h : tyOf P t = some ⟨.interface, s, c, z⟩) : aEql P t x y (.iface i a) .nilIface = some false := by
  obtain ⟨m, h1⟩ := ty_interface h
  simp only [aEql, h1, nilEq]
theorem eql_nil_iface {t : TypeId} {x : Operand} {v : Value} {s : Nat} {c : Bool} {z : Option (List Value)} (h : tyOf P t = some ⟨.interface, s, c, z⟩) : aEql P t x (.const v) .nilIface .nilIface = some true := by
  obtain ⟨m, h1⟩ := ty_interface h
  simp only [aEql, h1, isConst, Bool.or_true, if_true]

theorem wl_not {t : TypeId} {x : Operand} {b : Bool} (h : evE P e x = some (.bool b)) : WL P ⟨dst, .unOp .not t x, ty, pos, after, g⟩ e (.bool (!b)) := fun ev hv => by
  simp only [aLight, hv x _ (by simp [Op.operands]) h, boolV]
theorem wl_neg {t : TypeId} {x : Operand} {k : IntKind} {n : Int} (h : evE P e x = some (.int k n)) : WL P ⟨dst, .unOp .neg t x, ty, pos, after, g⟩ e (.int k (k.wrap (0 - n))) := fun ev hv => by
  simp only [aLight, hv x _ (by simp [Op.operands]) h, aInt]
theorem wl_conv {s t : TypeId} {x : Operand} {k k' : IntKind} {n : Int} {si : TyI} {z1 : Nat} {z2 : Bool} {z3 : Option (List Value)} (hs : tyOf P s = some si) (ht : tyOf P t = some ⟨.int k, z1, z2, z3⟩) (h : evE P e x = some (.int k' n)) :
    WL P ⟨dst, .convert s t x, ty, pos, after, g⟩ e (.int k (k.wrap n)) := fun ev hv => by
  obtain ⟨d, h1, _⟩ := ty_parts hs
  simp only [aLight, hv x _ (by simp [Op.operands]) h, h1, ty_int ht]
theorem wl_iface {t : TypeId} {x : Operand} {v : Value} {i : TyI} (ht : tyOf P t = some i) (hi : i.d ≠ .interface) (h : evE P e x = some v) : WL P ⟨dst, .makeInterface t x, ty, pos, after, g⟩ e (.iface t v) := fun ev hv => by
  obtain ⟨d, h1, h2⟩ := ty_notif ht hi
  simp only [aLight, hv x _ (by simp [Op.operands]) h, h1]
theorem wl_func {f : FuncId} {a b : Array Operand} {va vb : List Value} (ha : evsE P e a.toList = some va) (hb : evsE P e b.toList = some vb) : WL P ⟨dst, .makeFunc (.func f) a b, ty, pos, after, g⟩ e (.func (.func f) va.toArray vb.toArray) := fun ev hv => by
  simp only [aLight, hv.evs (fun x hx => by simp [Op.operands]; exact .inl (by simpa using hx)) ha, hv.evs (fun x hx => by simp [Op.operands]; exact .inr (by simpa using hx)) hb]
theorem wl_fieldAddr {s : TypeId} {x : Operand} {f : Nat} {b off o n : Nat} {c : Bool} {fs : List (Nat × Nat × Bool)} {z1 : Nat} {z2 : Bool} {z3 : Option (List Value)} (ht : tyOf P s = some ⟨.struct fs, z1, z2, z3⟩) (hf : fs[f]? = some (o, n, c)) (hn : Nat.beq n 0 = false)
    (h : evE P e x = some (.pointer (some ⟨b, off, none⟩))) : WL P ⟨dst, .fieldAddr s x f, ty, pos, after, g⟩ e (.pointer (some ⟨b, off + o, none⟩)) := fun ev hv => by
  obtain ⟨fa, fd, h1, h2, h3, h4⟩ := ty_struct ht hf
  obtain ⟨d, g1, g2, g3⟩ := part_ty h4
  have hn' : n ≠ 0 := fun e => by subst e; cases hn
  simp only [aLight, hv x _ (by simp [Op.operands]) h, h1, h2, g2]
  simp [hn', h3]
theorem wl_field {s : TypeId} {x : Operand} {f : Nat} {cs : List Value} {o n : Nat} {c : Bool} {v : Value} {fs : List (Nat × Nat × Bool)} {z1 : Nat} {z2 : Bool} {z3 : Option (List Value)} (ht : tyOf P s = some ⟨.struct fs, z1, z2, z3⟩) (hf : fs[f]? = some (o, n, c))
    (h : evE P e x = some (.agg ⟨cs⟩)) (hv : (bif c then some (.agg ⟨(cs.drop o).take n⟩) else cs[o]?) = some v) : WL P ⟨dst, .field s x f, ty, pos, after, g⟩ e v := fun ev hh => by
  obtain ⟨fa, fd, h1, h2, h3, h4⟩ := ty_struct ht hf
  simp only [aLight, hh x _ (by simp [Op.operands]) h, h1, h2, part_field h4, h3]
  cases c <;> simp_all
theorem wl_indexAddr {t : TypeId} {x i : Operand} {b off len cap : Nat} {k : IntKind} {n : Int} {el esz by_ : Nat} {ag : Bool} {z1 : Nat} {z2 : Bool} {z3 : Option (List Value)} (ht : tyOf P t = some ⟨.slice el esz ag by_, z1, z2, z3⟩)
    (hx : evE P e x = some (.slice (some ⟨b, off, none⟩) len cap)) (hi : evE P e i = some (.int k n)) (hn : 0 ≤ n ∧ n < len) : WL P ⟨dst, .indexAddr t x i, ty, pos, after, g⟩ e (.pointer (some ⟨b, off + n.toNat * esz, none⟩)) := fun ev hv => by
  obtain ⟨h1, h2, _⟩ := ty_slice ht
  simp only [aLight, hv x _ (by simp [Op.operands]) hx, hv i _ (by simp [Op.operands]) hi, h1, h2]
  simp [hn]
theorem wl_indexAddr_a {t : TypeId} {x i : Operand} {b off : Nat} {k : IntKind} {n : Int} {esz len : Nat} {ag : Bool} {z1 : Nat} {z2 : Bool} {z3 : Option (List Value)} (ht : tyOf P t = some ⟨.array len esz ag, z1, z2, z3⟩)
    (hx : evE P e x = some (.pointer (some ⟨b, off, none⟩))) (hi : evE P e i = some (.int k n)) (hn : 0 ≤ n ∧ n < len) : WL P ⟨dst, .indexAddr t x i, ty, pos, after, g⟩ e (.pointer (some ⟨b, off + n.toNat * esz, none⟩)) := fun ev hv => by
  obtain ⟨el, h1, h2, _⟩ := ty_array ht
  simp only [aLight, hv x _ (by simp [Op.operands]) hx, hv i _ (by simp [Op.operands]) hi, h1, h2]
  simp [hn]
theorem wl_index {t : TypeId} {x i : Operand} {cs : List Value} {k : IntKind} {n : Int} {esz len : Nat} {ag : Bool} {v : Value} {z1 : Nat} {z2 : Bool} {z3 : Option (List Value)} (ht : tyOf P t = some ⟨.array len esz ag, z1, z2, z3⟩)
    (hx : evE P e x = some (.agg ⟨cs⟩)) (hi : evE P e i = some (.int k n)) (hn : 0 ≤ n ∧ n < len) (hv : (bif ag then some (.agg ⟨(cs.drop (n.toNat * esz)).take esz⟩) else cs[n.toNat * esz]?) = some v) : WL P ⟨dst, .index t x i, ty, pos, after, g⟩ e v := fun ev hh => by
  obtain ⟨el, h1, h2, d, h3, h4⟩ := ty_array ht
  simp only [aLight, hh x _ (by simp [Op.operands]) hx, hh i _ (by simp [Op.operands]) hi, h1, h2, if_pos hn, aPart, h3, h4]
  cases ag <;> simp_all
theorem wl_indexStr {t : TypeId} {x i : Operand} {s : ByteArray} {k : IntKind} {n : Int} {b : UInt8} {z1 : Nat} {z2 : Bool} {z3 : Option (List Value)} (ht : tyOf P t = some ⟨.string, z1, z2, z3⟩)
    (hx : evE P e x = some (.string s)) (hi : evE P e i = some (.int k n)) (hn : 0 ≤ n) (hb : s[n.toNat]? = some b) : WL P ⟨dst, .index t x i, ty, pos, after, g⟩ e (.int .u8 b.toNat) := fun ev hv => by
  have h1 := ty_string ht
  simp only [aLight, hv x _ (by simp [Op.operands]) hx, hv i _ (by simp [Op.operands]) hi, h1, if_pos hn, hb]
theorem wl_extract {x : Operand} {i : Nat} {vs : List Value} {v : Value} (h : evE P e x = some (.tuple ⟨vs⟩)) (hi : vs[i]? = some v) : WL P ⟨dst, .extract x i, ty, pos, after, g⟩ e v := fun ev hv => by
  simp only [aLight, hv x _ (by simp [Op.operands]) h]
  simp [hi]
theorem wl_len {n : Nat} {t : TypeId} {x : Operand} {a : Option Addr} {c : Nat} {ats : Array TypeId} {el esz by_ : Nat} {ag : Bool} {z1 : Nat} {z2 : Bool} {z3 : Option (List Value)} (hat : ats[0]? = some t) (ht : tyOf P t = some ⟨.slice el esz ag by_, z1, z2, z3⟩) (h : evE P e x = some (.slice a n c)) :
    WL P ⟨dst, .call ⟨.builtin .len, #[x], ats⟩, ty, pos, after, g⟩ e (.int .i64 n) := fun ev hv => by
  have hx := hv x _ (by simp [Op.operands, Call.operands]) h
  simp only [aLight, hat, evs, hx, (ty_slice ht).1, goInt]
theorem wl_lenStr {t : TypeId} {x : Operand} {s : ByteArray} {ats : Array TypeId} {z1 : Nat} {z2 : Bool} {z3 : Option (List Value)} (hat : ats[0]? = some t) (ht : tyOf P t = some ⟨.string, z1, z2, z3⟩) (h : evE P e x = some (.string s)) :
    WL P ⟨dst, .call ⟨.builtin .len, #[x], ats⟩, ty, pos, after, g⟩ e (.int .i64 s.size) := fun ev hv => by
  have hx := hv x _ (by simp [Op.operands, Call.operands]) h
  simp only [aLight, hat, evs, hx, ty_string ht, goInt]
theorem wl_lenArr {t : TypeId} {x : Operand} {v : Value} {ats : Array TypeId} {n esz : Nat} {ag : Bool} {z1 : Nat} {z2 : Bool} {z3 : Option (List Value)} (hat : ats[0]? = some t) (ht : tyOf P t = some ⟨.array n esz ag, z1, z2, z3⟩) (h : evE P e x = some v) :
    WL P ⟨dst, .call ⟨.builtin .len, #[x], ats⟩, ty, pos, after, g⟩ e (.int .i64 n) := fun ev hv => by
  obtain ⟨el, h1, _⟩ := ty_array ht
  have hx := hv x _ (by simp [Op.operands, Call.operands]) h
  simp only [aLight, hat, evs, hx, h1, goInt]
theorem wl_cap {n : Nat} {t : TypeId} {x : Operand} {a : Option Addr} {c : Nat} {ats : Array TypeId} {el esz by_ : Nat} {ag : Bool} {z1 : Nat} {z2 : Bool} {z3 : Option (List Value)} (hat : ats[0]? = some t) (ht : tyOf P t = some ⟨.slice el esz ag by_, z1, z2, z3⟩) (h : evE P e x = some (.slice a n c)) (hc : c < topCap) :
    WL P ⟨dst, .call ⟨.builtin .cap, #[x], ats⟩, ty, pos, after, g⟩ e (.int .i64 c) := fun ev hv => by
  have hx := hv x _ (by simp [Op.operands, Call.operands]) h
  simp only [aLight, hat, evs, hx, (ty_slice ht).1, goInt, if_pos hc]
theorem wl_max {x y : Operand} {k : IntKind} {a b : Int} {ats : Array TypeId} (hx : evE P e x = some (.int k a)) (hy : evE P e y = some (.int k b)) :
    WL P ⟨dst, .call ⟨.builtin .max, #[x, y], ats⟩, ty, pos, after, g⟩ e (.int k (if b > a then b else a)) := fun ev hv => by
  simp only [aLight, evs, hv x _ (by simp [Op.operands, Call.operands]) hx, hv y _ (by simp [Op.operands, Call.operands]) hy, if_true]
theorem wl_min {x y : Operand} {k : IntKind} {a b : Int} {ats : Array TypeId} (hx : evE P e x = some (.int k a)) (hy : evE P e y = some (.int k b)) :
    WL P ⟨dst, .call ⟨.builtin .min, #[x, y], ats⟩, ty, pos, after, g⟩ e (.int k (if b < a then b else a)) := fun ev hv => by
  simp only [aLight, evs, hv x _ (by simp [Op.operands, Call.operands]) hx, hv y _ (by simp [Op.operands, Call.operands]) hy, if_true]
theorem wl_nilPtr {x : Operand} {a : Addr} (h : evE P e x = some (.pointer (some a))) : WL P ⟨dst, .nilCheck x, ty, pos, after, g⟩ e (.pointer (some a)) := fun ev hv => by
  simp only [aLight, hv x _ (by simp [Op.operands]) h]
theorem wl_nilFn {x : Operand} {f : FuncId} {a b : Array Value} (h : evE P e x = some (.func (.func f) a b)) : WL P ⟨dst, .nilCheck x, ty, pos, after, g⟩ e (.func (.func f) a b) := fun ev hv => by
  simp only [aLight, hv x _ (by simp [Op.operands]) h]
theorem wl_assert {x : Operand} {s t : TypeId} {v : Value} {i : TyI} (ht : tyOf P t = some i) (hi : i.d ≠ .interface) (h : evE P e x = some (.iface t v)) : WL P ⟨dst, .typeAssert x s t false, ty, pos, after, g⟩ e v := fun ev hv => by
  obtain ⟨d, h1, h2⟩ := ty_notif ht hi
  simp only [aLight, hv x _ (by simp [Op.operands]) h, h1]
  simp
theorem wl_assert_ok {x : Operand} {s t : TypeId} {v : Value} {i : TyI} (ht : tyOf P t = some i) (hi : i.d ≠ .interface) (h : evE P e x = some (.iface t v)) : WL P ⟨dst, .typeAssert x s t true, ty, pos, after, g⟩ e (.tuple #[v, .bool true]) := fun ev hv => by
  obtain ⟨d, h1, h2⟩ := ty_notif ht hi
  simp only [aLight, hv x _ (by simp [Op.operands]) h, h1]
  simp
theorem wl_assert_no {x : Operand} {s t u : TypeId} {v z : Value} {i : TyI} (ht : tyOf P t = some i) (hi : i.d ≠ .interface) (hz : zeroOf P t = some z) (hu : Nat.beq u t = false) (h : evE P e x = some (.iface u v)) : WL P ⟨dst, .typeAssert x s t true, ty, pos, after, g⟩ e (.tuple #[z, .bool false]) := fun ev hv => by
  obtain ⟨d, h1, h2⟩ := ty_notif ht hi
  have : ¬ u = t := fun e => by subst e; rw [Nat.beq_refl] at hu; cases hu
  simp only [aLight, hv x _ (by simp [Op.operands]) h, h1, hz]
  simp [this]
theorem wl_assert_nil {x : Operand} {s t : TypeId} {z : Value} {i : TyI} (ht : tyOf P t = some i) (hi : i.d ≠ .interface) (hz : zeroOf P t = some z) (h : evE P e x = some .nilIface) : WL P ⟨dst, .typeAssert x s t true, ty, pos, after, g⟩ e (.tuple #[z, .bool false]) := fun ev hv => by
  obtain ⟨d, h1, h2⟩ := ty_notif ht hi
  simp only [aLight, hv x _ (by simp [Op.operands]) h, h1, hz]
  simp
end light
end
end Go.Ab

namespace Go.Ab
section
variable {P : Program}

theorem get_app {α : Type} {K Kf : List α} {i : Nat} {x : α} (h : K[i]? = some x) : (K ++ Kf)[i]? = some x := by
  rw [List.getElem?_append_left (List.getElem?_eq_some_iff.1 h).1]; exact h
theorem set_app {α : Type} {K Kf : List α} {i : Nat} {x y : α} (h : K[i]? = some x) : (K ++ Kf).set i y = K.set i y ++ Kf :=
  List.set_append_left _ _ (List.getElem?_eq_some_iff.1 h).1

theorem keys_set_same {K : Kn} {i : Nat} {k k' : KE} (h : K[i]? = some k) (hk : k.key = k'.key) : keys (K.set i k') = keys K := by
  induction K generalizing i with
  | nil => cases h
  | cons x K ih =>
    cases i with
    | zero => simp at h; subst h; simp only [List.set_cons_zero, keys, List.filterMap_cons, hk]
    | succ i =>
      simp at h
      simp only [List.set_cons_succ, keys, List.filterMap_cons]
      have := ih h
      unfold keys at this
      rw [this]

theorem keys_set_sub {K : Kn} {i : Nat} : (keys (K.set i .no)).Sublist (keys K) := by
  induction K generalizing i with
  | nil => exact List.Sublist.refl _
  | cons k K ih =>
    cases i with
    | zero =>
      cases k with
      | no => exact List.Sublist.refl _
      | «at» b x => exact List.sublist_cons_self _ _
      | rsv b => exact List.sublist_cons_self _ _
    | succ i =>
      cases k with
      | no => exact ih (i := i)
      | «at» b x => exact (ih (i := i)).cons_cons _
      | rsv b => exact (ih (i := i)).cons_cons _

theorem mem_set {K : Kn} {i : Nat} {k x : KE} (h : x ∈ K.set i k) : x = k ∨ ∃ j, j ≠ i ∧ K[j]? = some x := by
  obtain ⟨j, hj⟩ := List.mem_iff_getElem?.1 h
  rw [List.getElem?_set] at hj
  split at hj
  · next he => split at hj <;> cases hj; exact .inl rfl
  · next he => exact .inr ⟨j, fun e => he e.symm, hj⟩

theorem nodup_at {K : Kn} (h : (keys K).Nodup) {i j b : Nat} {x y : KE} (hi : K[i]? = some x) (hj : K[j]? = some y) (hx : x.key = some b) (hy : y.key = some b) : i = j := by
  induction K generalizing i j with
  | nil => cases hi
  | cons k K ih =>
    have up : ∀ {n : Nat} {z : KE}, K[n]? = some z → z.key = some b → b ∈ keys K := fun hn hz => mem_keys (List.mem_of_getElem? hn) hz
    have tl : (keys K).Nodup := by
      cases k with
      | no => exact h
      | «at» c x => exact (List.nodup_cons.1 h).2
      | rsv c => exact (List.nodup_cons.1 h).2
    have hd : ∀ {c : Nat}, k.key = some c → c ∉ keys K := fun hc => by
      cases k with
      | no => cases hc
      | «at» d x => cases hc; exact (List.nodup_cons.1 h).1
      | rsv d => cases hc; exact (List.nodup_cons.1 h).1
    cases i with
    | zero =>
      cases j with
      | zero => rfl
      | succ j =>
        simp at hi hj
        subst hi
        exact absurd (up hj hy) (hd hx)
    | succ i =>
      cases j with
      | zero =>
        simp at hi hj
        subst hj
        exact absurd (up hi hx) (hd hy)
      | succ j => simp at hi hj; rw [ih tl hi hj]

theorem St1.setAt {B : Hp} {K : Kn} {A : H} {i b : Nat} {x : KE} (h : St1 B K A) (hi : K[i]? = some x) (hx : x.key = some b) (y : Blk) : St1 B (K.set i (.at b y)) (A.put b y) where
  base := fun c z hc => by
    have h1 := h.base c z hc
    have h2 := h.low b (mem_keys (List.mem_of_getElem? hi) hx)
    rw [H.get_put, if_neg (fun e => by subst e; rw [h2.2.2] at hc; cases hc)]
    exact h1
  at_ := fun c z hc => by
    rcases mem_set hc with e | ⟨j, hj, hc'⟩
    · cases e; rw [H.get_put, if_pos rfl]
    · rw [H.get_put, if_neg (fun e => by subst e; exact hj (nodup_at h.nod hc' hi rfl hx))]
      exact h.at_ c z (List.mem_of_getElem? hc')
  rsv := fun c hc => by
    rcases mem_set hc with e | ⟨j, hj, hc'⟩
    · cases e
    · rw [H.get_put, if_neg (fun e => by subst e; exact hj (nodup_at h.nod hc' hi rfl hx))]
      exact h.rsv c (List.mem_of_getElem? hc')
  low := by rw [keys_set_same (k' := .at b y) hi hx]; exact h.low
  nod := by rw [keys_set_same (k' := .at b y) hi hx]; exact h.nod
  ro := h.ro
  fresh := fun c hc => by
    have h2 := h.low b (mem_keys (List.mem_of_getElem? hi) hx)
    have hc' : A.next ≤ c := hc
    rw [H.get_put, if_neg (by omega)]
    exact h.fresh c hc

theorem St1.killAt {B : Hp} {K : Kn} {A : H} {i b : Nat} {x : Blk} (h : St1 B K A) (hi : K[i]? = some (.at b x)) : St1 B (K.set i .no) (A.kill b) where
  base := fun c z hc => by
    have h1 := h.base c z hc
    have h2 := h.own b x (List.mem_of_getElem? hi)
    rw [H.get_kill, if_neg (fun e => by subst e; rw [h2.2.2.2] at hc; cases hc)]
    exact h1
  at_ := fun c z hc => by
    rcases mem_set hc with e | ⟨j, hj, hc'⟩
    · cases e
    · rw [H.get_kill, if_neg (fun e => by subst e; exact hj (nodup_at h.nod hc' hi rfl rfl))]
      exact h.at_ c z (List.mem_of_getElem? hc')
  rsv := fun c hc => by
    rcases mem_set hc with e | ⟨j, hj, hc'⟩
    · cases e
    · rw [H.get_kill]; split
      · rfl
      · exact h.rsv c (List.mem_of_getElem? hc')
  low := fun c hc => h.low c (keys_set_sub.subset hc)
  nod := h.nod.sublist keys_set_sub
  ro := h.ro
  fresh := fun c hc => by
    rw [H.get_kill]; split
    · rfl
    · exact h.fresh c hc

theorem St1.freezeAt {B : Hp} {K : Kn} {A : H} {i b : Nat} {x : Blk} (h : St1 B K A) (hi : K[i]? = some (.at b x)) : St1 (B.put b x) (K.set i .no) A ∧ BLe B (B.put b x) := by
  have h2 := h.own b x (List.mem_of_getElem? hi)
  refine ⟨⟨fun c z hc => ?_, fun c z hc => ?_, fun c hc => ?_, fun c hc => ?_, h.nod.sublist keys_set_sub, h.ro, h.fresh⟩, fun c z hc => ?_⟩
  · unfold Hp.put at hc
    split at hc
    · next e => cases hc; subst e; exact ⟨h2.1, h2.2.2.1⟩
    · exact h.base c z hc
  · rcases mem_set hc with e | ⟨j, hj, hc'⟩
    · cases e
    · exact h.at_ c z (List.mem_of_getElem? hc')
  · rcases mem_set hc with e | ⟨j, hj, hc'⟩
    · cases e
    · exact h.rsv c (List.mem_of_getElem? hc')
  · have h1 := h.low c (keys_set_sub.subset hc)
    refine ⟨h1.1, h1.2.1, ?_⟩
    unfold Hp.put
    rw [if_neg (fun e => ?_)]
    · exact h1.2.2
    · subst e
      obtain ⟨k, hk1, hk2⟩ := List.mem_filterMap.1 hc
      rcases mem_set hk1 with e | ⟨j, hj, hc'⟩
      · subst e; cases hk2
      · exact hj (nodup_at h.nod hc' hi hk2 rfl)
  · unfold Hp.put
    rw [if_neg (fun e => by subst e; rw [h2.2.2.2] at hc; cases hc)]
    exact hc

theorem St1.dropAt {B : Hp} {K : Kn} {A : H} (i : Nat) (h : St1 B K A) : St1 B (K.set i .no) A where
  base := h.base
  at_ := fun c z hc => by
    rcases mem_set hc with e | ⟨j, hj, hc'⟩
    · cases e
    · exact h.at_ c z (List.mem_of_getElem? hc')
  rsv := fun c hc => by
    rcases mem_set hc with e | ⟨j, hj, hc'⟩
    · cases e
    · exact h.rsv c (List.mem_of_getElem? hc')
  low := fun c hc => h.low c (keys_set_sub.subset hc)
  nod := h.nod.sublist keys_set_sub
  ro := h.ro
  fresh := h.fresh

/-- Less is known. -/
theorem St1.sub {B : Hp} {K K' : Kn} {A : H} (h : St1 B K A) (hs : K'.Sublist K) : St1 B K' A :=
  ⟨h.base, fun b x hb => h.at_ b x (hs.subset hb), fun b hb => h.rsv b (hs.subset hb), fun b hb => h.low b ((hs.filterMap _).subset hb), h.nod.sublist (hs.filterMap _), h.ro, h.fresh⟩

/-- A slot that holds nothing takes what stands at the head. -/
theorem swap_no {K : Kn} {i : Nat} {k : KE} (h : K[i]? = some .no) : (k :: K).Perm (KE.no :: K.set i k) := by
  induction K generalizing i with
  | nil => cases h
  | cons x K ih =>
    cases i with
    | zero => simp at h; subst h; exact List.Perm.swap ..
    | succ i =>
      simp at h
      refine (List.Perm.swap x k K).trans (((ih h).cons x).trans ?_)
      exact List.Perm.swap ..
theorem St1.no {B : Hp} {K : Kn} {A : H} (h : St1 B (.no :: K) A) : St1 B K A := h.sub (List.sublist_cons_self _ _)
theorem St1.pushAt {B : Hp} {K : Kn} {A : H} {i : Nat} (h : St1 B K A) (hi : K[i]? = some .no) (x : Blk) : St1 B (K.set i (.at A.next x)) (A.push x) :=
  ((h.push x).perm (swap_no hi)).no

/-! Reading. -/
def RdB (B : Hp) (b off : Nat) (vs : List Value) : Prop := ∃ cs esz, B b = some (.row cs esz) ∧ takeAt cs off vs.length = some vs
theorem RdB.mono {B B' : Hp} {b off : Nat} {vs : List Value} (h : RdB B b off vs) (hb : BLe B B') : RdB B' b off vs := by
  obtain ⟨cs, z, h1, h2⟩ := h; exact ⟨cs, z, hb _ _ h1, h2⟩

theorem read_row {A : H} {b : Nat} {cs : List Value} {z : Nat} (h : A.get b = some (.row cs z)) (off n : Nat) : A.read b off n = takeAt cs off n := by
  simp only [H.read, h, takeAt]

theorem aLoad_agg {t : TypeId} {d : TyD} {n : Nat} {z : Option (List Value)} (ht : tyOf P t = some ⟨d, n, true, z⟩) (A : H) (b off : Nat) : aLoad P A t (.pointer (some ⟨b, off, none⟩)) = (A.read b off n).map fun cs => .agg cs.toArray := by
  obtain ⟨dd, h1, h2, h3, _⟩ := ty_parts ht
  simp only at h2 h3
  simp only [aLoad, h1, h2, h3, if_true]
theorem aLoad_one {t : TypeId} {d : TyD} {n : Nat} {z : Option (List Value)} (ht : tyOf P t = some ⟨d, n, false, z⟩) (A : H) (b off : Nat) : aLoad P A t (.pointer (some ⟨b, off, none⟩)) = match A.read b off 1 with | some [v] => some v | _ => none := by
  obtain ⟨dd, h1, h2, h3, _⟩ := ty_parts ht
  simp only at h2 h3
  simp only [aLoad, h1, h2, h3]
  rw [if_neg (by simp)]
  cases A.read b off 1 with
  | none => rfl
  | some l => cases l with
    | nil => rfl
    | cons v l => cases l <;> rfl

theorem wr_own {t : TypeId} {d : TyD} {n : Nat} {z : Option (List Value)} {B : Hp} {K : Kn} (i : Nat) {b off : Nat} {cs vs : List Value} {esz : Nat} (hk : K[i]? = some (.at b (.row cs esz))) (ht : tyOf P t = some ⟨d, n, true, z⟩) (hv : takeAt cs off n = some vs) :
    WR P t (.pointer (some ⟨b, off, none⟩)) B K (.agg ⟨vs⟩) := fun A Kf hs => by
  rw [aLoad_agg ht, read_row (hs.own b _ (List.mem_of_getElem? (get_app hk))).1, hv]; rfl
theorem take_one {cs : List Value} {off : Nat} {v : Value} (h : cs[off]? = some v) : takeAt cs off 1 = some [v] := by
  obtain ⟨h1, h2⟩ := List.getElem?_eq_some_iff.1 h
  unfold takeAt
  rw [if_pos (by omega), List.drop_eq_getElem_cons h1]
  simp [h2]
theorem wr_own1 {t : TypeId} {d : TyD} {n : Nat} {z : Option (List Value)} {B : Hp} {K : Kn} (i : Nat) {b off : Nat} {cs : List Value} {v : Value} {esz : Nat} (hk : K[i]? = some (.at b (.row cs esz))) (ht : tyOf P t = some ⟨d, n, false, z⟩) (hv : cs[off]? = some v) :
    WR P t (.pointer (some ⟨b, off, none⟩)) B K v := fun A Kf hs => by
  rw [aLoad_one ht, read_row (hs.own b _ (List.mem_of_getElem? (get_app hk))).1, take_one hv]
theorem wr_base {t : TypeId} {d : TyD} {n : Nat} {z : Option (List Value)} {B : Hp} {K : Kn} {b off : Nat} {vs : List Value} (ht : tyOf P t = some ⟨d, n, true, z⟩) (h : RdB B b off vs) (hn : vs.length = n) :
    WR P t (.pointer (some ⟨b, off, none⟩)) B K (.agg ⟨vs⟩) := fun A Kf hs => by
  obtain ⟨cs, esz, h1, h2⟩ := h
  rw [aLoad_agg ht, read_row (hs.base b _ h1).1, ← hn, h2]; rfl
theorem wr_base1 {t : TypeId} {d : TyD} {n : Nat} {z : Option (List Value)} {B : Hp} {K : Kn} {b off : Nat} {v : Value} (ht : tyOf P t = some ⟨d, n, false, z⟩) (h : RdB B b off [v]) :
    WR P t (.pointer (some ⟨b, off, none⟩)) B K v := fun A Kf hs => by
  obtain ⟨cs, esz, h1, h2⟩ := h
  rw [aLoad_one ht, read_row (hs.base b _ h1).1]
  simp only [List.length_cons, List.length_nil, Nat.zero_add] at h2
  rw [h2]

/-! Operations that make, read, or write memory. -/
section ops
variable {dst : Option Tmp} {ty : TypeId} {pos : String} {after : Array Edge} {g : Option (Nat × Bool)} {e : Env} {B : Hp} {K : Kn} {R : OR → Hp → Kn → Prop}

def lightKind : Op → Bool
  | .move .. | .assign .. | .pick .. | .nilCheck .. | .binOp .. | .unOp .. | .convert .. | .makeInterface .. | .makeFunc .. | .fieldAddr .. | .field .. | .indexAddr .. | .index .. | .slice .. | .typeAssert .. | .extract .. | .build .. => true
  | .call c => match c.callee with
    | .builtin .cap | .builtin .max | .builtin .min => true
    | _ => false
  | _ => false

theorem light_op {c : CallF} {ev : Operand → Option Value} {o : Oper} (h : lightKind o.op = true) (A : H) : aOp P c ev o A = (aLight P ev o).map fun r => (r, A) := by
  obtain ⟨dst, op, ty, pos, after, g⟩ := o
  cases op <;> first | rfl | cases h | skip
  case call cc =>
    obtain ⟨callee, args, ats⟩ := cc
    cases callee with
    | value f => cases h
    | invoke => cases h
    | builtin b => cases b <;> first | rfl | cases h

theorem wo_light {o : Oper} {v : Value} (h : WL P o e v) (hk : lightKind o.op = true) (k : R (.val v) B K) : WO P o e B K R := fun ev A Kf hev hs =>
  ⟨.val v, A, B, K, ⟨0, fun m _ => by rw [light_op hk, h ev hev]; rfl⟩, hs, rfl, BLe.refl B, k⟩
theorem wo_light_p {o : Oper} {ch : List PanicEntry} (h : WLp P o e ch) (hk : lightKind o.op = true) (k : R (.pan ch) B K) : WO P o e B K R := fun ev A Kf hev hs =>
  ⟨.pan ch, A, B, K, ⟨0, fun m _ => by rw [light_op hk, h ev hev]; rfl⟩, hs, rfl, BLe.refl B, k⟩
theorem wo_len {args : Array Operand} {ats : Array TypeId} {v : Value} {x : Operand} {w : Value} (ha : args = #[x]) (hx : evE P e x = some w) (hw : ∀ r, w ≠ .map (some r)) (h : WL P ⟨dst, .call ⟨.builtin .len, args, ats⟩, ty, pos, after, g⟩ e v) (k : R (.val v) B K) : WO P ⟨dst, .call ⟨.builtin .len, args, ats⟩, ty, pos, after, g⟩ e B K R := fun ev A Kf hev hs => by
  subst ha
  refine ⟨.val v, A, B, K, ⟨0, fun m _ => ?_⟩, hs, rfl, BLe.refl B, k⟩
  have hx' := hev x _ (by simp [Op.operands, Call.operands]) hx
  have hl := h ev hev
  simp only [aOp, evs, hx']
  split
  · next r _ he => simp at he; exact absurd he.1 (hw _)
  · rw [hl]; rfl

theorem wo_load {t : TypeId} {x : Operand} {p v : Value} (hx : evE P e x = some p) (h : WR P t p B K v) (k : R (.val v) B K) : WO P ⟨dst, .load t x, ty, pos, after, g⟩ e B K R := fun ev A Kf hev hs =>
  ⟨.val v, A, B, K, ⟨0, fun m _ => by simp only [aOp, hev x _ (by simp [Op.operands]) hx, h A Kf hs, Option.map_some]⟩, hs, rfl, BLe.refl B, k⟩

theorem wm_alloc {t : TypeId} {d : TyD} {n : Nat} {c : Bool} {l : List Value} (ht : tyOf P t = some ⟨d, n, c, some l⟩) : WM P ⟨dst, .alloc t, ty, pos, after, g⟩ e l 0 none := fun ev _ => by
  obtain ⟨_, _, _, _, _, h5⟩ := ty_parts ht
  obtain ⟨z, h1, h2, _⟩ := zero_ty h5
  simp only [aMake, h1, h2]
theorem wm_box {t : TypeId} {x : Operand} {v : Value} (h : evE P e x = some v) : WM P ⟨dst, .box t x, ty, pos, after, g⟩ e v.cells.toList 0 none := fun ev hv => by
  simp only [aMake, hv x _ (by simp [Op.operands]) h, Option.map_some]

def makeKind : Op → Bool
  | .alloc .. | .box .. | .buildSlice .. => true
  | _ => false
theorem make_op {c : CallF} {ev : Operand → Option Value} {o : Oper} (h : makeKind o.op = true) (A : H) : aOp P c ev o A = match aMake P ev o with | some (.row cs esz l) => some (.val (LR.mk A.next (.row cs esz l)), A.push (.row cs esz)) | _ => none := by
  obtain ⟨dst, op, ty, pos, after, g⟩ := o
  cases op <;> first | rfl | cases h

theorem wo_make {o : Oper} {cells : List Value} {esz : Nat} {l : Option Nat} (h : WM P o e cells esz l) (hk : makeKind o.op = true) (k : ∀ b, R (.val (LR.mk b (.row cells esz l))) B (.at b (.row cells esz) :: K)) : WO P o e B K R := fun ev A Kf hev hs =>
  ⟨_, _, B, .at A.next (.row cells esz) :: K, ⟨0, fun m _ => by rw [make_op hk, h ev hev]⟩, hs.push _, rfl, BLe.refl B, k _⟩

theorem write_row {A : H} {b : Nat} {cs : List Value} {z off : Nat} {vs : List Value} (h : A.get b = some (.row cs z)) (hr : A.ro ≤ b) (hl : off + vs.length ≤ cs.length) (ho : vs.all oneCell = true) : A.write b off vs = some (A.put b (.row (setAt cs off vs) z)) := by
  simp only [H.write, h]
  rw [if_pos ⟨hl, hr, ho⟩]

theorem wo_store {t : TypeId} {x y : Operand} {v : Value} {d : TyD} {n : Nat} {c : Bool} {z : Option (List Value)} (i : Nat) {b off : Nat} {cs : List Value} {esz : Nat} (hx : evE P e x = some (.pointer (some ⟨b, off, none⟩))) (hk : K[i]? = some (.at b (.row cs esz))) (hy : evE P e y = some v)
    (ht : tyOf P t = some ⟨d, n, c, z⟩) (hn : v.cells.size = n) (hl : off + n ≤ cs.length) (ho : v.cells.toList.all oneCell = true) (k : R (.val undef) B (K.set i (.at b (.row (setAt cs off v.cells.toList) esz)))) : WO P ⟨dst, .store t x y, ty, pos, after, g⟩ e B K R := fun ev A Kf hev hs => by
  obtain ⟨_, _, h2, _⟩ := ty_parts ht
  simp only at h2
  have hw := write_row (hs.own b _ (List.mem_of_getElem? (get_app hk))).1 (hs.own b _ (List.mem_of_getElem? (get_app hk))).2.1 (vs := v.cells.toList) (off := off) (by simp [hn]; exact hl) ho
  have hst := hs.setAt (get_app hk) rfl (.row (setAt cs off v.cells.toList) esz)
  rw [set_app hk] at hst
  refine ⟨.val undef, _, B, _, ⟨0, fun m _ => ?_⟩, hst, rfl, BLe.refl B, k⟩
  simp only [aOp, hev x _ (by simp [Op.operands]) hx, hev y _ (by simp [Op.operands]) hy, h2]
  rw [if_pos hn, hw]
  rfl

theorem wo_panic {x : Operand} {t : TypeId} {v : Value} (h : evE P e x = some (.iface t v)) (k : R (.pan [{ v := .iface t v, recovered := false }]) B K) : WO P ⟨dst, .panic x, ty, pos, after, g⟩ e B K R := fun ev A Kf hev hs =>
  ⟨_, A, B, K, ⟨0, fun m _ => by simp only [aOp, hev x _ (by simp [Op.operands]) h, pan1]⟩, hs, rfl, BLe.refl B, k⟩

def callK (R : OR → Hp → Kn → Prop) : AEnd → Hp → Kn → Prop := fun r B K => match r with
  | .ret v => R (.val v) B K
  | .pan ch => R (.pan ch) B K
theorem wo_call {f : Operand} {args : Array Operand} {ats : Array TypeId} {gf : FuncId} {first cap : Array Value} {vs : List Value} (hf : evE P e f = some (.func (.func gf) first cap)) (ha : evsE P e args.toList = some vs)
    (h : Does P gf (first.toList ++ vs ++ cap.toList) B K (callK R)) : WO P ⟨dst, .call ⟨.value f, args, ats⟩, ty, pos, after, g⟩ e B K R := fun ev A Kf hev hs => by
  obtain ⟨r, A', B', K', ⟨n, h1⟩, h2, h3, h4, h5⟩ := h A Kf hs
  have e1 := hev f _ (by simp [Op.operands, Call.operands]) hf
  have e2 := hev.evs (fun x hx => by simp [Op.operands, Call.operands]; exact .inr (by simpa using hx)) ha
  cases r with
  | ret v => exact ⟨.val v, A', B', K', ⟨n, fun m hm => by simp only [aOp, e1, e2, h1 m hm]⟩, h2, h3, h4, h5⟩
  | pan ch => exact ⟨.pan ch, A', B', K', ⟨n, fun m hm => by simp only [aOp, e1, e2, h1 m hm]⟩, h2, h3, h4, h5⟩

theorem callK_r {v : Value} {B : Hp} {K : Kn} (h : R (.val v) B K) : callK R (.ret v) B K := h
theorem callK_p {ch : List PanicEntry} {B : Hp} {K : Kn} (h : R (.pan ch) B K) : callK R (.pan ch) B K := h
/-- A call that needs nothing of one's own. -/
theorem wo_call_p {f : Operand} {args : Array Operand} {ats : Array TypeId} {gf : FuncId} {first cap : Array Value} {vs : List Value} {S : AEnd → Hp → Prop} (hf : evE P e f = some (.func (.func gf) first cap)) (ha : evsE P e args.toList = some vs)
    (h : Does P gf (first.toList ++ vs ++ cap.toList) B [] (fun r B' K' => K' = [] ∧ S r B')) (k : ∀ r B', BLe B B' → S r B' → callK R r B' K) : WO P ⟨dst, .call ⟨.value f, args, ats⟩, ty, pos, after, g⟩ e B K R :=
  wo_call hf ha (h.pure fun r B' K' hb ⟨hk, hs⟩ => by subst hk; exact k r B' hb hs)

/-- The same, where it is known what is told; all stays true that was true of an earlier memory. -/
theorem wo_call_v {f : Operand} {args : Array Operand} {ats : Array TypeId} {gf : FuncId} {first cap : Array Value} {vs : List Value} {B0 : Hp} {v : Value} (hb : BLe B0 B) (hf : evE P e f = some (.func (.func gf) first cap)) (ha : evsE P e args.toList = some vs)
    (h : Does P gf (first.toList ++ vs ++ cap.toList) B [] (fun r _ K' => K' = [] ∧ r = .ret v)) (k : ∀ B', BLe B0 B' → R (.val v) B' K) : WO P ⟨dst, .call ⟨.value f, args, ats⟩, ty, pos, after, g⟩ e B K R :=
  wo_call_p (S := fun r _ => r = .ret v) hf ha h fun r B' hb' hr => by subst hr; exact k B' (hb.trans hb')

theorem wo_defer {f : Operand} {args : Array Operand} {ats : Array TypeId} {gf : FuncId} {first cap : Array Value} {vs : List Value} (hf : evE P e f = some (.func (.func gf) first cap)) (ha : evsE P e args.toList = some vs)
    (k : R (.defer { target := .fn (.func gf) cap, args := first ++ vs.toArray }) B K) : WO P ⟨dst, .defer ⟨.value f, args, ats⟩, ty, pos, after, g⟩ e B K R := fun ev A Kf hev hs => by
  have e1 := hev f _ (by simp [Op.operands, Call.operands]) hf
  have e2 := hev.evs (fun x hx => by simp [Op.operands, Call.operands]; exact .inr (by simpa using hx)) ha
  exact ⟨_, A, B, K, ⟨0, fun m _ => by simp only [aOp, e1, e2]⟩, hs, rfl, BLe.refl B, k⟩

/-! Slices that grow. -/
/-- A slice of one's own that may grow: nothing yet, a whole row, or one that has grown. -/
inductive OSl (sz : Nat) : Value → KE → List Value → Prop
  | nil : OSl sz (.slice none 0 0) .no []
  | whole (b len : Nat) (cells : List Value) : cells.length = len * sz → len < topCap → OSl sz (.slice (some ⟨b, 0, none⟩) len len) (.at b (.row cells sz)) cells
  | grown (b len : Nat) (cells : List Value) : cells.length = len * sz → OSl sz (.slice (some ⟨b, 0, none⟩) len (topCap + sz)) (.at b (.row cells sz)) cells

/-- What is appended: so many elements, these cells. -/
def Src (B : Hp) (K : Kn) (sz : Nat) (x : Value) (n : Nat) (new : List Value) : Prop := ∀ A Kf, St1 B (K ++ Kf) A → lenOf x = some n ∧ firstCells A sz n x = some new

theorem src_own {sz : Nat} (j : Nat) {b off n c : Nat} {cs new : List Value} {z : Nat} (hk : K[j]? = some (.at b (.row cs z))) (h : takeAt cs off (n * sz) = some new) : Src B K sz (.slice (some ⟨b, off, none⟩) n c) n new := fun A Kf hs => by
  refine ⟨rfl, ?_⟩
  simp only [firstCells, Nat.le_refl, if_true]
  rw [read_row (hs.own b _ (List.mem_of_getElem? (get_app hk))).1, h]
theorem src_base {sz : Nat} {b off n c : Nat} {new : List Value} (h : RdB B b off new) (hn : new.length = n * sz) : Src B K sz (.slice (some ⟨b, off, none⟩) n c) n new := fun A Kf hs => by
  obtain ⟨cs, z, h1, h2⟩ := h
  refine ⟨rfl, ?_⟩
  simp only [firstCells, Nat.le_refl, if_true]
  rw [read_row (hs.base b _ h1).1, ← hn, h2]
theorem src_nil {sz : Nat} : Src B K sz (.slice none 0 0) 0 [] := fun A Kf hs => ⟨rfl, by simp [firstCells]⟩

def notInt : TyD → Bool
  | .int _ => false
  | _ => true

theorem app_ty {ats : Array TypeId} {t xt el esz by_ : Nat} {ag : Bool} {z1 : Nat} {z2 : Bool} {z3 : Option (List Value)} {xi ei : TyI} {zl : List Value} (hat : ats[0]? = some t) (ht : tyOf P t = some ⟨.slice el esz ag by_, z1, z2, z3⟩) (hat1 : ats[1]? = some xt) (hxt : tyOf P xt = some xi)
    (hxi : notInt xi.d = true) (he : tyOf P el = some ei) (hz : ei.zero = some zl) {c : CallF} {ev : Operand → Option Value} {s x : Operand} {sv xv : Value} {A : H} (hs : ev s = some sv) (hx : ev x = some xv) :
    aOp P c ev ⟨dst, .call ⟨.builtin .append, #[s, x], ats⟩, ty, pos, after, g⟩ A = (aAppend A esz by_ sv xv).map fun (v, A') => (.val v, A') := by
  obtain ⟨h1, h2, _, i, h3, h4, h5⟩ := ty_slice ht
  obtain ⟨d, g1, _, _, g4, _⟩ := ty_parts hxt
  obtain ⟨_, _, k2, _, _, k5⟩ := ty_parts he
  rw [hz] at k5
  obtain ⟨z, m1, m2, m3⟩ := zero_ty k5
  have hd : ∀ k, d ≠ .int k := by
    intro k e
    subst e
    simp only [tyD, Option.some.injEq] at g4
    rw [← g4] at hxi
    cases hxi
  have hsz : z.cells.size = i.size := by
    rw [h4]
    rw [h2] at m3
    cases m3
    rw [← m2]; simp
  simp only [aOp, hat, evs, hs, hx, h1, h3, hat1, g1]
  cases d <;> first | exact absurd rfl (hd _) | (simp only [m1]; rw [if_pos hsz, h4, h5])

theorem wo_append {s x : Operand} {ats : Array TypeId} {sv xv : Value} {t xt el esz by_ : Nat} {ag : Bool} {z1 : Nat} {z2 : Bool} {z3 : Option (List Value)} {xi ei : TyI} {zl : List Value} (i : Nat) {ke : KE} {cells new : List Value} {n : Nat}
    (hs : evE P e s = some sv) (hx : evE P e x = some xv) (hat : ats[0]? = some t) (ht : tyOf P t = some ⟨.slice el esz ag by_, z1, z2, z3⟩) (hat1 : ats[1]? = some xt) (hxt : tyOf P xt = some xi) (hxi : notInt xi.d = true) (he : tyOf P el = some ei) (hz : ei.zero = some zl)
    (hk : K[i]? = some ke) (ho : OSl esz sv ke cells) (hsrc : Src B K esz xv n new) (hnew : new.length = n * esz) (hone : new.all oneCell = true) (hb1 : Nat.ble by_ (2 ^ 20) = true) (hb2 : Nat.ble 1 by_ = true) (hb3 : Nat.ble 1 esz = true) (hb : cells.length * by_ + new.length * by_ ≤ 2 ^ 40)
    (k : ∀ v' ke', OSl esz v' ke' (cells ++ new) → R (.val v') B (K.set i ke')) : WO P ⟨dst, .call ⟨.builtin .append, #[s, x], ats⟩, ty, pos, after, g⟩ e B K R := fun ev A Kf hev hst => by
  have e1 := hev s _ (by simp [Op.operands, Call.operands]) hs
  have e2 := hev x _ (by simp [Op.operands, Call.operands]) hx
  obtain ⟨l1, l2⟩ := hsrc A Kf hst
  have p1 : by_ ≤ 2 ^ 20 := Nat.le_of_ble_eq_true hb1
  have p2 : 0 < by_ := Nat.le_of_ble_eq_true hb2
  have p3 : 0 < esz := Nat.le_of_ble_eq_true hb3
  have go : ∀ v' A', aAppend A esz by_ sv xv = some (v', A') → ∀ m, aOp P (aS P m) ev ⟨dst, .call ⟨.builtin .append, #[s, x], ats⟩, ty, pos, after, g⟩ A = some (.val v', A') := fun v' A' h m => by
    rw [app_ty hat ht hat1 hxt hxi he hz e1 e2, h]; rfl
  have grow : ∀ (len : Nat), cells.length = len * esz → (len + n) * by_ ≤ 2 ^ 40 := by
    intro len hl
    have : (len + n) * by_ ≤ cells.length * by_ + new.length * by_ := by
      rw [hl, hnew, ← Nat.add_mul, ← Nat.add_mul]
      exact Nat.mul_le_mul_right _ (Nat.le_mul_of_pos_right _ p3)
    omega
  have top : topCap = 2 ^ 64 := rfl
  have small : ∀ (len : Nat), cells.length = len * esz → len + n < topCap := by
    intro len hl
    have h1 := grow len hl
    have h2 : len + n ≤ (len + n) * by_ := Nat.le_mul_of_pos_right _ p2
    omega
  have sum : ∀ (len : Nat), cells.length = len * esz → (cells ++ new).length = (len + n) * esz := by
    intro len hl
    rw [List.length_append, hl, hnew, Nat.add_mul]
  cases ho with
  | nil =>
    by_cases hn : n = 0
    · subst hn
      have hnil : new = [] := List.length_eq_zero_iff.1 (by rw [hnew]; simp)
      subst hnil
      refine ⟨_, A, B, _, ⟨0, fun m _ => go (.slice none 0 0) A (by simp [aAppend, l1, l2, top]) m⟩, ?_, rfl, BLe.refl B, k _ _ (by simpa using OSl.nil)⟩
      have : K.set i .no = K := by
        apply List.ext_getElem?
        intro j
        rw [List.getElem?_set]
        split
        · next hj => subst hj; split <;> simp_all
        · rfl
      rw [this]; exact hst
    · refine ⟨_, _, B, _, ⟨0, fun m _ => go (.slice (some ⟨A.next, 0, none⟩) (0 + n) (topCap + esz)) (A.push (.row ([] ++ new) esz)) ?_ m⟩, ?_, rfl, BLe.refl B, k _ _ (.grown A.next (0 + n) _ (sum 0 (by simp)))⟩
      · simp only [aAppend, l1, l2]
        rw [if_neg (by omega), if_pos (by omega), if_pos ⟨grow 0 (by simp), p1, p2, Nat.le_refl _, p3⟩]
        simp [firstCells]
      · have := hst.pushAt (get_app hk) (.row ([] ++ new) esz)
        rwa [set_app hk] at this
  | whole b len cells hl hc =>
    have hob := hst.own b _ (List.mem_of_getElem? (get_app hk))
    by_cases hn : n = 0
    · subst hn
      have hnil : new = [] := List.length_eq_zero_iff.1 (by rw [hnew]; simp)
      subst hnil
      refine ⟨_, A, B, _, ⟨0, fun m _ => go (.slice (some ⟨b, 0, none⟩) len len) A (by simp [aAppend, l1, l2, hc]) m⟩, ?_, rfl, BLe.refl B, k _ (.at b (.row cells esz)) (by simpa using OSl.whole b len cells hl hc)⟩
      have : K.set i (.at b (.row cells esz)) = K := by
        apply List.ext_getElem?
        intro j
        rw [List.getElem?_set]
        split
        · next hj => subst hj; split <;> simp_all
        · rfl
      rw [this]; exact hst
    · refine ⟨_, _, B, _, ⟨0, fun m _ => go (.slice (some ⟨A.next, 0, none⟩) (len + n) (topCap + esz)) (A.push (.row (cells ++ new) esz)) ?_ m⟩, ?_, rfl, BLe.refl B, k _ _ (.grown A.next (len + n) _ (sum len hl))⟩
      · simp only [aAppend, l1, l2]
        rw [if_neg (by omega), if_pos hc, if_pos ⟨grow len hl, p1, p2, Nat.le_refl _, p3⟩]
        simp only [firstCells, Nat.le_refl, if_true]
        rw [read_row hob.1]
        simp [takeAt, ← hl]
      · have h1 := (hst.dropAt i).pushAt (i := i) (by have hlt := (List.getElem?_eq_some_iff.1 hk).1; rw [List.getElem?_set]; simp; omega) (.row (cells ++ new) esz)
        rw [List.set_set, set_app hk] at h1
        exact h1
  | grown b len cells hl =>
    have hob := hst.own b _ (List.mem_of_getElem? (get_app hk))
    refine ⟨_, _, B, _, ⟨0, fun m _ => go (.slice (some ⟨A.next, 0, none⟩) (len + n) (topCap + esz)) ((A.kill b).push (.row (cells ++ new) esz)) ?_ m⟩, ?_, rfl, BLe.refl B, k _ _ (.grown A.next (len + n) _ (sum len hl))⟩
    · simp only [aAppend, l1, l2]
      rw [if_neg (by omega), if_neg (by omega)]
      simp only [hob.1]
      rw [if_pos ⟨trivial, trivial, p3, hob.2.1, by omega, grow len hl, p1, p2, hone⟩]
      simp [← hl]
    · have h1 := (hst.killAt (get_app hk)).pushAt (i := i) (by have hlt := (List.getElem?_eq_some_iff.1 hk).1; rw [List.getElem?_set]; simp; omega) (.row (cells ++ new) esz)
      rw [List.set_set, set_app hk] at h1
      exact h1
end ops
end
end Go.Ab

namespace Go.Ab
section
variable (P : Program)

/-- What was known at each heap of a history. -/
inductive Hist (Kf : Kn) : List (Hp × Kn) → List H → Prop
  | nil : Hist Kf [] []
  | cons (B : Hp) (K : Kn) (A : H) (l : List (Hp × Kn)) (hs : List H) : St1 B (K ++ Kf) A → Hist Kf l hs → Hist Kf ((B, K) :: l) (A :: hs)

theorem Hist.snoc {Kf : Kn} {l : List (Hp × Kn)} {hs : List H} (h : Hist Kf l hs) {B : Hp} {K : Kn} {A : H} (k : St1 B (K ++ Kf) A) : Hist Kf (l ++ [(B, K)]) (hs ++ [A]) := by
  induction h with
  | nil => exact .cons _ _ _ _ _ k .nil
  | cons B K A l hs h1 _ ih => exact .cons _ _ _ _ _ h1 ih
theorem Hist.drop {Kf : Kn} : ∀ {l : List (Hp × Kn)} {hs : List H} (n : Nat), Hist Kf l hs → Hist Kf (l.drop n) (hs.drop n)
  | _, _, 0, h => h
  | _, _, n + 1, .nil => .nil
  | _, _, n + 1, .cons _ _ _ _ _ _ h => Hist.drop n h

abbrev Pan := Option (List PanicEntry × Hp × Kn × Nat)
def PanR (B : Hp) (Kf : Kn) (ro : Nat) : Pan → Option (List PanicEntry × H × Nat) → Prop
  | none, none => True
  | some (ch, Bp, Kp, h), some (ch', Ap, h') => ch = ch' ∧ h = h' ∧ St1 Bp (Kp ++ Kf) Ap ∧ Ap.ro = ro ∧ BLe B Bp
  | _, _ => False

def skipE (ah : List Nat) (pan : Pan) (s : Step) : Bool := match pan with
  | some (_, _, _, h) => s.heavy || (ah.getD s.i 0).testBit h
  | none => false

/-- Steps of a plan. -/
def WD (N : Nat) (ops : Array Oper) (ah : List Nat) (base : Nat) (steps : List Step) (e : Env) (ds : List Deferred) (B : Hp) (K : Kn) (hist : List (Hp × Kn)) (pan : Pan) (Qn : Env → Hp → Kn → Prop) (Qp : List PanicEntry → Hp → Kn → Prop) : Prop :=
  ∀ a A Kf hs pa, AgE N ds e a → St1 B (K ++ Kf) A → Hist Kf hist hs → PanR B Kf A.ro pan pa →
    ∃ st, (∃ n, ∀ m, n ≤ m → dRun P eqvC (aS P m) ops ah base steps ⟨a, A, hs, pa⟩ = some st) ∧
      match st.pan with
      | none => ∃ e' B' K', AgE N ds e' st.a ∧ St1 B' (K' ++ Kf) st.A ∧ st.A.ro = A.ro ∧ BLe B B' ∧ Qn e' B' K'
      | some (ch, Ap, _) => ∃ B' K', St1 B' (K' ++ Kf) Ap ∧ Ap.ro = A.ro ∧ BLe B B' ∧ Qp ch B' K'
variable {P}

section steps
variable {N : Nat} {ops : Array Oper} {ah : List Nat} {base : Nat} {s : Step} {steps : List Step} {e : Env} {ds : List Deferred} {B : Hp} {K : Kn} {hist : List (Hp × Kn)} {pan : Pan} {Qn : Env → Hp → Kn → Prop} {Qp : List PanicEntry → Hp → Kn → Prop} {o : Oper}

theorem wd_nil (h : Qn e B K) : WD P N ops ah base [] e ds B K hist none Qn Qp := fun a A Kf hs pa ha hst hh hp => by
  cases pa with
  | none => exact ⟨_, ⟨0, fun m _ => rfl⟩, e, B, K, ha, hst, rfl, BLe.refl B, h⟩
  | some q => exact absurd hp id
theorem wd_nil_p {ch : List PanicEntry} {Bp : Hp} {Kp : Kn} {i : Nat} (h : Qp ch Bp Kp) : WD P N ops ah base [] e ds B K hist (some (ch, Bp, Kp, i)) Qn Qp := fun a A Kf hs pa ha hst hh hp => by
  cases pa with
  | none => exact absurd hp id
  | some q =>
    obtain ⟨ch', Ap, i'⟩ := q
    obtain ⟨rfl, rfl, h1, h2, h3⟩ := hp
    exact ⟨_, ⟨0, fun m _ => rfl⟩, Bp, Kp, h1, h2, h3, h⟩

def skipA (ah : List Nat) (s : Step) (pa : Option (List PanicEntry × H × Nat)) : Bool := match pa with | some (_, _, h) => s.heavy || (ah.getD s.i 0).testBit h | none => false
theorem skip_eq {B : Hp} {Kf : Kn} {ro : Nat} {pa : Option (List PanicEntry × H × Nat)} (hp : PanR B Kf ro pan pa) : skipA ah s pa = skipE ah pan s := by
  cases pan with
  | none => cases pa with
    | none => rfl
    | some q => exact absurd hp id
  | some q => cases pa with
    | none => exact absurd hp id
    | some r =>
      obtain ⟨c1, c2, c3, c4⟩ := q
      obtain ⟨d1, d2, d3⟩ := r
      obtain ⟨_, rfl, _⟩ := hp
      rfl

/-- A step that isn't passed over. -/
noncomputable def dDo (P : Program) (eqv : Value → Value → Bool) (callF : CallF) (opsA : Array Oper) (base : Nat) (s : Step) (o : Oper) (st : St) : Option St :=
    match wantedA opsA st.a o with
    | none => none
    | some false => st.set o undef st.A (if s.heavy then st.hs ++ [st.A] else st.hs)
    | some true =>
      if s.heavy then
        match aOp P callF (Ab.evFor P o st.a) o st.A with
        | some (.val v, A') => st.set o v A' (st.hs ++ [A'])
        | some (.pan ch, A') => (match st with | ⟨a, A, hs, _⟩ => some ⟨a, A, hs, some (ch, A', s.i)⟩)
        | _ => none
      else
        match o.op with
        | .load t x => match Ab.evFor P o st.a x with
          | some p => match aLoad P st.A t p with
            | some v =>
              if (st.hs.drop s.from_).all fun B => (match aLoad P B t p with | some u => eqv v u | none => false) then st.set o v st.A st.hs else none
            | none => none
          | none => none
        | .alloc _ | .box .. | .buildSlice .. => match aMake P (Ab.evFor P o st.a) o with
          | some (.row cs esz l) => st.set o (LR.mk (base + s.i) (.row cs esz l)) (st.A.put (base + s.i) (.row cs esz)) st.hs
          | none => none
        | _ => match aLight P (Ab.evFor P o st.a) o with
          | some (.val v) => st.set o v st.A st.hs
          | _ => none

theorem dStep_skip {c : CallF} {a : Act} {A : H} {hs : List H} {pa : Option (List PanicEntry × H × Nat)} (ho : ops.toList[s.i]? = some o) (h : skipA ah s pa = true) : dStep P eqvC c ops ah base s ⟨a, A, hs, pa⟩ = some ⟨a, A, hs, pa⟩ := by
  unfold dStep
  rw [ho]
  cases pa with
  | none => cases h
  | some q => exact if_pos h
theorem dStep_do {c : CallF} {a : Act} {A : H} {hs : List H} {pa : Option (List PanicEntry × H × Nat)} (ho : ops.toList[s.i]? = some o) (h : skipA ah s pa = false) : dStep P eqvC c ops ah base s ⟨a, A, hs, pa⟩ = dDo P eqvC c ops base s o ⟨a, A, hs, pa⟩ := by
  unfold dStep
  rw [ho]
  have hn : ¬ skipA ah s pa = true := by rw [h]; simp
  cases pa with
  | none => exact if_neg hn
  | some q => exact if_neg hn

theorem wd_skip (ho : ops.toList[s.i]? = some o) (hk : skipE ah pan s = true) (h : WD P N ops ah base steps e ds B K hist pan Qn Qp) : WD P N ops ah base (s :: steps) e ds B K hist pan Qn Qp := fun a A Kf hs pa ha hst hh hp => by
  obtain ⟨st, ⟨n, h1⟩, h2⟩ := h a A Kf hs pa ha hst hh hp
  refine ⟨st, ⟨n, fun m hm => ?_⟩, h2⟩
  unfold dRun
  rw [dStep_skip ho ((skip_eq hp).trans hk)]
  exact h1 m hm

theorem wd_unwanted (ho : ops.toList[s.i]? = some o) (hk : skipE ah pan s = false) (hg : guardE ops e o = some false) (hd : dstOk N o.dst = true) (h : WD P N ops ah base steps (envPut o.dst undef e) ds B K (bif s.heavy then hist ++ [(B, K)] else hist) pan Qn Qp) :
    WD P N ops ah base (s :: steps) e ds B K hist pan Qn Qp := fun a A Kf hs pa ha hst hh hp => by
  obtain ⟨a', hput, ha'⟩ := ha.put' hd undef
  have hh' : Hist Kf (bif s.heavy then hist ++ [(B, K)] else hist) (if s.heavy then hs ++ [A] else hs) := by
    cases s.heavy
    · exact hh
    · exact hh.snoc hst
  obtain ⟨st, ⟨n, h1⟩, h2⟩ := h a' A Kf _ pa ha' hst hh' hp
  refine ⟨st, ⟨n, fun m hm => ?_⟩, h2⟩
  unfold dRun
  rw [dStep_do ho ((skip_eq hp).trans hk)]
  unfold dDo
  simp only [guard_wanted ha hg, St.set, hput]
  exact h1 m hm

def otherKind : Op → Bool
  | .load .. | .alloc .. | .box .. | .buildSlice .. => false
  | _ => true

theorem wd_light {v : Value} (ho : ops.toList[s.i]? = some o) (hk : skipE ah pan s = false) (hg : guardE ops e o = some true) (hd : dstOk N o.dst = true) (hv : s.heavy = false) (hl : otherKind o.op = true) (hw : WL P o e v)
    (h : WD P N ops ah base steps (envPut o.dst v e) ds B K hist pan Qn Qp) : WD P N ops ah base (s :: steps) e ds B K hist pan Qn Qp := fun a A Kf hs pa ha hst hh hp => by
  obtain ⟨a', hput, ha'⟩ := ha.put' hd v
  obtain ⟨st, ⟨n, h1⟩, h2⟩ := h a' A Kf hs pa ha' hst hh hp
  refine ⟨st, ⟨n, fun m hm => ?_⟩, h2⟩
  unfold dRun
  rw [dStep_do ho ((skip_eq hp).trans hk)]
  unfold dDo
  simp only [guard_wanted ha hg, hv, Bool.false_eq_true, if_false]
  have hlt := hw _ (ha.evFor o)
  obtain ⟨dst, op, ty, pos, after, g⟩ := o
  cases op <;> first | (simp only [hlt, St.set, hput]; exact h1 m hm) | (cases hl; done)

theorem wd_load {t : TypeId} {x : Operand} {p v : Value} {dst : Option Tmp} {ty : TypeId} {pos : String} {after : Array Edge} {g : Option (Nat × Bool)} (ho : ops.toList[s.i]? = some ⟨dst, .load t x, ty, pos, after, g⟩) (hk : skipE ah pan s = false) (hg : guardE ops e ⟨dst, .load t x, ty, pos, after, g⟩ = some true) (hd : dstOk N dst = true) (hv : s.heavy = false)
    (hx : evE P e x = some p) (hr : WR P t p B K v) (hrs : ∀ q ∈ hist.drop s.from_, WR P t p q.1 q.2 v)
    (h : WD P N ops ah base steps (envPut dst v e) ds B K hist pan Qn Qp) : WD P N ops ah base (s :: steps) e ds B K hist pan Qn Qp := fun a A Kf hs pa ha hst hh hp => by
  obtain ⟨a', hput, ha'⟩ := ha.put' hd v
  obtain ⟨st, ⟨n, h1⟩, h2⟩ := h a' A Kf hs pa ha' hst hh hp
  refine ⟨st, ⟨n, fun m hm => ?_⟩, h2⟩
  have hall : ((hs.drop s.from_).all fun B => (match aLoad P B t p with | some u => eqvC v u | none => false)) = true := by
    have : ∀ {l : List (Hp × Kn)} {hl : List H}, Hist Kf l hl → (∀ q ∈ l, WR P t p q.1 q.2 v) → (hl.all fun B => (match aLoad P B t p with | some u => eqvC v u | none => false)) = true := by
      intro l hl hi
      induction hi with
      | nil => intro _; rfl
      | cons B K A l hs hs1 _ ih =>
        intro hq
        simp only [List.all_cons, Bool.and_eq_true]
        refine ⟨?_, ih fun q hm => hq q (List.mem_cons_of_mem _ hm)⟩
        rw [hq (B, K) (List.mem_cons_self ..) A Kf hs1]
        exact eqvC_refl v
    exact this (hh.drop _) hrs
  unfold dRun
  rw [dStep_do ho ((skip_eq hp).trans hk)]
  unfold dDo
  simp only [guard_wanted ha hg, hv, Bool.false_eq_true, if_false, ha.evFor ⟨dst, .load t x, ty, pos, after, g⟩ x p (by simp [Op.operands]) hx, hr A Kf hst]
  rw [if_pos hall]
  simp only [St.set, hput]
  exact h1 m hm

theorem wd_make {cells : List Value} {esz : Nat} {l : Option Nat} (j : Nat) (ho : ops.toList[s.i]? = some o) (hk : skipE ah pan s = false) (hg : guardE ops e o = some true) (hd : dstOk N o.dst = true) (hv : s.heavy = false) (hl : makeKind o.op = true) (hw : WM P o e cells esz l)
    (hj : K[j]? = some (.rsv (base + s.i)))
    (h : WD P N ops ah base steps (envPut o.dst (LR.mk (base + s.i) (.row cells esz l)) e) ds B (K.set j (.at (base + s.i) (.row cells esz))) hist pan Qn Qp) : WD P N ops ah base (s :: steps) e ds B K hist pan Qn Qp := fun a A Kf hs pa ha hst hh hp => by
  obtain ⟨a', hput, ha'⟩ := ha.put' hd (LR.mk (base + s.i) (.row cells esz l))
  have hst' := hst.setAt (get_app hj) rfl (.row cells esz)
  rw [set_app hj] at hst'
  obtain ⟨st, ⟨n, h1⟩, h2⟩ := h a' _ Kf hs pa ha' hst' hh hp
  refine ⟨st, ⟨n, fun m hm => ?_⟩, h2⟩
  unfold dRun
  rw [dStep_do ho ((skip_eq hp).trans hk)]
  unfold dDo
  simp only [guard_wanted ha hg, hv, Bool.false_eq_true, if_false]
  have hlt := hw _ (ha.evFor o)
  obtain ⟨dst, op, ty, pos, after, g⟩ := o
  cases op <;> first | (simp only [hlt, St.set, hput]; exact h1 m hm) | (cases hl; done)

def hvK (P : Program) (N : Nat) (ops : Array Oper) (ah : List Nat) (base : Nat) (s : Step) (d : Option Tmp) (steps : List Step) (e : Env) (ds : List Deferred) (B : Hp) (K : Kn) (hist : List (Hp × Kn)) (Qn : Env → Hp → Kn → Prop) (Qp : List PanicEntry → Hp → Kn → Prop) : OR → Hp → Kn → Prop := fun r B' K' => match r with
  | .val v => WD P N ops ah base steps (envPut d v e) ds B' K' (hist ++ [(B', K')]) none Qn Qp
  | .pan ch => WD P N ops ah base steps e ds B K hist (some (ch, B', K', s.i)) Qn Qp
  | .defer _ => False
theorem hvK_v {d : Option Tmp} {v : Value} {B' : Hp} {K' : Kn} (h : WD P N ops ah base steps (envPut d v e) ds B' K' (hist ++ [(B', K')]) none Qn Qp) : hvK P N ops ah base s d steps e ds B K hist Qn Qp (.val v) B' K' := h
theorem hvK_p {d : Option Tmp} {ch : List PanicEntry} {B' : Hp} {K' : Kn} (h : WD P N ops ah base steps e ds B K hist (some (ch, B', K', s.i)) Qn Qp) : hvK P N ops ah base s d steps e ds B K hist Qn Qp (.pan ch) B' K' := h

theorem wd_heavy (ho : ops.toList[s.i]? = some o) (hg : guardE ops e o = some true) (hd : dstOk N o.dst = true) (hv : s.heavy = true) (hw : WO P o e B K (hvK P N ops ah base s o.dst steps e ds B K hist Qn Qp)) :
    WD P N ops ah base (s :: steps) e ds B K hist none Qn Qp := fun a A Kf hs pa ha hst hh hp => by
  obtain ⟨r, A1, B1, K1, ⟨n1, h1⟩, h2, h3, h4, h5⟩ := hw _ A Kf (ha.evFor o) hst
  have hpa : pa = none := by cases pa with
    | none => rfl
    | some q => exact absurd hp id
  subst hpa
  have head : ∀ m st', (match aOp P (aS P m) (Ab.evFor P o a) o A with
        | some (.val v, A') => St.set ⟨a, A, hs, none⟩ o v A' (hs ++ [A'])
        | some (.pan ch, A') => some ⟨a, A, hs, some (ch, A', s.i)⟩
        | _ => none) = some st' → dStep P eqvC (aS P m) ops ah base s ⟨a, A, hs, none⟩ = some st' := by
    intro m st' hst'
    rw [dStep_do ho rfl]
    unfold dDo
    simp only [guard_wanted ha hg, hv, if_true]
    exact hst'
  cases r with
  | val v =>
    obtain ⟨a', hput, ha'⟩ := ha.put' hd v
    obtain ⟨st, ⟨n, g1⟩, g2⟩ := (show WD P N ops ah base steps (envPut o.dst v e) ds B1 K1 (hist ++ [(B1, K1)]) none Qn Qp from h5) a' A1 Kf _ none ha' h2 (hh.snoc h2) trivial
    refine ⟨st, ⟨n1 + n, fun m hm => ?_⟩, ?_⟩
    · unfold dRun
      rw [head m ⟨a', A1, hs ++ [A1], none⟩ (by simp only [h1 m (by omega), St.set, hput])]
      exact g1 m (by omega)
    · split at g2
      · next hn =>
        obtain ⟨e', B', K', k1, k2, k3, k4, k5⟩ := g2
        exact ⟨e', B', K', k1, k2, k3.trans h3, h4.trans k4, k5⟩
      · obtain ⟨B', K', k1, k2, k3, k4⟩ := g2
        exact ⟨B', K', k1, k2.trans h3, h4.trans k3, k4⟩
  | pan ch =>
    obtain ⟨st, ⟨n, g1⟩, g2⟩ := (show WD P N ops ah base steps e ds B K hist (some (ch, B1, K1, s.i)) Qn Qp from h5) a A Kf hs (some (ch, A1, s.i)) ha hst hh ⟨rfl, rfl, h2, h3, h4⟩
    refine ⟨st, ⟨n1 + n, fun m hm => ?_⟩, g2⟩
    unfold dRun
    rw [head m ⟨a, A, hs, some (ch, A1, s.i)⟩ (by simp only [h1 m (by omega)])]
    exact g1 m (by omega)
  | defer d => exact absurd h5 id

theorem wd_split (t : Nat) {b : Bool} (hl : look e t = some (.bool b)) (h1 : b = true → WD P N ops ah base steps ((t, .bool true) :: e) ds B K hist pan Qn Qp) (h2 : b = false → WD P N ops ah base steps ((t, .bool false) :: e) ds B K hist pan Qn Qp) :
    WD P N ops ah base steps e ds B K hist pan Qn Qp := by
  have up : ∀ c, b = c → ∀ a, AgE N ds e a → AgE N ds ((t, .bool c) :: e) a := fun c hc a ha => ⟨ha.n, ha.ds, fun s v hv => by
    unfold look at hv
    cases hb : Nat.beq t s with
    | true => rw [hb] at hv; cases hv; rw [← Nat.eq_of_beq_eq_true hb, ← hc]; exact ha.tm _ _ hl
    | false => rw [hb] at hv; exact ha.tm _ _ hv⟩
  cases hb : b with
  | true => exact fun a A Kf hs pa ha => h1 hb a A Kf hs pa (up _ hb a ha)
  | false => exact fun a A Kf hs pa ha => h2 hb a A Kf hs pa (up _ hb a ha)
theorem wd_gsplit {o : Oper} {j t : Nat} {want : Bool} {p : Prop} [Decidable p] (ho : ops.toList[s.i]? = some o) (hg : o.guard = some (j, want)) (ht : (ops[j]?).bind (·.dst) = some t) (hl : look e t = some (.bool (decide p)))
    (h1 : p → WD P N ops ah base (s :: steps) ((t, .bool true) :: e) ds B K hist pan Qn Qp) (h2 : ¬p → WD P N ops ah base (s :: steps) ((t, .bool false) :: e) ds B K hist pan Qn Qp) : WD P N ops ah base (s :: steps) e ds B K hist pan Qn Qp :=
  wd_split t hl (fun h => h1 (of_decide_eq_true h)) (fun h => h2 (of_decide_eq_false h))
end steps

/-- A load comes to v, whatever is known of a list. -/
def AllR (P : Program) (t : TypeId) (p v : Value) : List (Hp × Kn) → Prop
  | [] => True
  | (B, K) :: l => WR P t p B K v ∧ AllR P t p v l
theorem AllR.all {t : TypeId} {p v : Value} : ∀ {l : List (Hp × Kn)}, AllR P t p v l → ∀ q ∈ l, WR P t p q.1 q.2 v
  | [], _, q, hq => by cases hq
  | (B, K) :: l, h, q, hq => by
    rcases List.mem_cons.1 hq with rfl | hq
    · exact h.1
    · exact AllR.all h.2 q hq
section steps2
variable {N : Nat} {ops : Array Oper} {ah : List Nat} {base : Nat} {s : Step} {steps : List Step} {e : Env} {ds : List Deferred} {B : Hp} {K : Kn} {hist : List (Hp × Kn)} {pan : Pan} {Qn : Env → Hp → Kn → Prop} {Qp : List PanicEntry → Hp → Kn → Prop} {o : Oper} {d : Tmp}
/-! The same, where a slot is written. -/
theorem wd_unw (ho : ops.toList[s.i]? = some o) (hk : skipE ah pan s = false) (hg : guardE ops e o = some false) (hdst : o.dst = some d) (hd : dstOk N (some d) = true) (h : WD P N ops ah base steps ((d, undef) :: e) ds B K (bif s.heavy then hist ++ [(B, K)] else hist) pan Qn Qp) :
    WD P N ops ah base (s :: steps) e ds B K hist pan Qn Qp := wd_unwanted ho hk hg (by rw [hdst]; exact hd) (by rw [hdst]; exact h)
theorem wd_lt {v : Value} (ho : ops.toList[s.i]? = some o) (hk : skipE ah pan s = false) (hg : guardE ops e o = some true) (hdst : o.dst = some d) (hd : dstOk N (some d) = true) (hv : s.heavy = false) (hl : otherKind o.op = true) (hw : WL P o e v)
    (h : WD P N ops ah base steps ((d, v) :: e) ds B K hist pan Qn Qp) : WD P N ops ah base (s :: steps) e ds B K hist pan Qn Qp := wd_light ho hk hg (by rw [hdst]; exact hd) hv hl hw (by rw [hdst]; exact h)
theorem wd_ld {t : TypeId} {x : Operand} {p v : Value} {ty : TypeId} {pos : String} {after : Array Edge} {g : Option (Nat × Bool)} (ho : ops.toList[s.i]? = some ⟨some d, .load t x, ty, pos, after, g⟩) (hk : skipE ah pan s = false) (hg : guardE ops e ⟨some d, .load t x, ty, pos, after, g⟩ = some true) (hd : dstOk N (some d) = true) (hv : s.heavy = false)
    (hx : evE P e x = some p) (hr : WR P t p B K v) (hrs : AllR P t p v (hist.drop s.from_))
    (h : WD P N ops ah base steps ((d, v) :: e) ds B K hist pan Qn Qp) : WD P N ops ah base (s :: steps) e ds B K hist pan Qn Qp := wd_load ho hk hg hd hv hx hr hrs.all h
theorem wd_mk {cells : List Value} {esz : Nat} {l : Option Nat} (j : Nat) (ho : ops.toList[s.i]? = some o) (hk : skipE ah pan s = false) (hg : guardE ops e o = some true) (hdst : o.dst = some d) (hd : dstOk N (some d) = true) (hv : s.heavy = false) (hl : makeKind o.op = true) (hw : WM P o e cells esz l)
    (hj : K[j]? = some (.rsv (base + s.i)))
    (h : WD P N ops ah base steps ((d, LR.mk (base + s.i) (.row cells esz l)) :: e) ds B (K.set j (.at (base + s.i) (.row cells esz))) hist pan Qn Qp) : WD P N ops ah base (s :: steps) e ds B K hist pan Qn Qp :=
  wd_make j ho hk hg (by rw [hdst]; exact hd) hv hl hw hj (by rw [hdst]; exact h)
theorem hvK_d {v : Value} {B' : Hp} {K' : Kn} (h : WD P N ops ah base steps ((d, v) :: e) ds B' K' (hist ++ [(B', K')]) none Qn Qp) : hvK P N ops ah base s (some d) steps e ds B K hist Qn Qp (.val v) B' K' := h
theorem hvK_n {v : Value} {B' : Hp} {K' : Kn} (h : WD P N ops ah base steps e ds B' K' (hist ++ [(B', K')]) none Qn Qp) : hvK P N ops ah base s none steps e ds B K hist Qn Qp (.val v) B' K' := h
end steps2
/-- The blocks that a region will make. -/
def rsvs (base : Nat) : Nat → List Oper → Kn
  | _, [] => []
  | i, o :: os => bif makeKind o.op then .rsv (base + i) :: rsvs base (i + 1) os else rsvs base (i + 1) os

/-- What is known besides the slots that a region writes. -/
def minus (l : List Oper) (e : Env) : Env := e.filter fun p => !(l.any fun o => o.dst == some p.1)

theorem rsvs_keys (base : Nat) : ∀ (l : List Oper) (i b : Nat), b ∈ keys (rsvs base i l) → base + i ≤ b ∧ b < base + i + l.length
  | [], i, b, h => by cases h
  | o :: l, i, b, h => by
    unfold rsvs at h
    cases hm : makeKind o.op with
    | true =>
      rw [hm] at h
      rcases List.mem_cons.1 (show b ∈ (base + i) :: keys (rsvs base (i + 1) l) from h) with e | h
      · subst e; simp
      · have := rsvs_keys base l (i + 1) b h; simp; omega
    | false =>
      rw [hm] at h
      have := rsvs_keys base l (i + 1) b h; simp; omega
theorem rsvs_nodup (base : Nat) : ∀ (l : List Oper) (i : Nat), (keys (rsvs base i l)).Nodup
  | [], i => List.nodup_nil
  | o :: l, i => by
    unfold rsvs
    cases makeKind o.op with
    | true =>
      refine List.nodup_cons.2 ⟨fun h => ?_, rsvs_nodup base l (i + 1)⟩
      have := rsvs_keys base l (i + 1) _ h
      omega
    | false => exact rsvs_nodup base l (i + 1)
theorem rsvs_at (base : Nat) : ∀ (l : List Oper) (i b : Nat) (x : Blk), KE.at b x ∉ rsvs base i l
  | [], i, b, x => fun h => by cases h
  | o :: l, i, b, x => fun h => by
    unfold rsvs at h
    cases hm : makeKind o.op <;> rw [hm] at h
    · exact rsvs_at base l (i + 1) b x h
    · rcases List.mem_cons.1 h with e | h
      · cases e
      · exact rsvs_at base l (i + 1) b x h

theorem keys_append (K L : Kn) : keys (K ++ L) = keys K ++ keys L := List.filterMap_append ..

theorem St1.region {B : Hp} {K : Kn} {A : H} (h : St1 B K A) (l : List Oper) : St1 B (rsvs A.next 0 l ++ K) { A with next := A.next + l.length } where
  base := fun b x hb => ⟨(h.base b x hb).1, Nat.lt_of_lt_of_le (h.base b x hb).2 (Nat.le_add_right _ _)⟩
  at_ := fun b x hb => by
    rcases List.mem_append.1 hb with hb | hb
    · exact absurd hb (rsvs_at _ _ _ _ _)
    · exact h.at_ b x hb
  rsv := fun b hb => by
    rcases List.mem_append.1 hb with hb | hb
    · exact h.fresh b (by have := (rsvs_keys _ _ _ _ (mem_keys hb rfl)).1; omega)
    · exact h.rsv b hb
  low := fun b hb => by
    rw [keys_append] at hb
    rcases List.mem_append.1 hb with hb | hb
    · have h1 := rsvs_keys _ _ _ _ hb
      refine ⟨Nat.le_trans h.ro (by omega), by show b < A.next + l.length; omega, ?_⟩
      cases hB : B b with
      | none => rfl
      | some x => have := (h.base b x hB).2; omega
    · have := h.low b hb
      exact ⟨this.1, Nat.lt_of_lt_of_le this.2.1 (Nat.le_add_right _ _), this.2.2⟩
  nod := by
    rw [keys_append]
    refine List.nodup_append.2 ⟨rsvs_nodup _ _ _, h.nod, fun a ha b hb e => ?_⟩
    subst e
    have h1 := rsvs_keys _ _ _ _ ha
    have h2 := (h.low a hb).2.1
    omega
  ro := Nat.le_trans h.ro (Nat.le_add_right _ _)
  fresh := fun b hb => h.fresh b (by have hb' : A.next + l.length ≤ b := hb; omega)

theorem look_minus (l : List Oper) (t : Nat) (v : Value) : ∀ (e : Env), look (minus l e) t = some v → (l.any fun o => o.dst == some t) = false ∧ look e t = some v
  | [], h => by cases h
  | (d, u) :: e, h => by
    unfold minus at h
    rw [List.filter_cons] at h
    cases hd : (l.any fun o => o.dst == some d) with
    | true =>
      simp only [hd, Bool.not_true, Bool.false_eq_true, if_false] at h
      obtain ⟨h1, h2⟩ := look_minus l t v e h
      refine ⟨h1, ?_⟩
      unfold look
      cases hb : Nat.beq d t with
      | true =>
        have := Nat.eq_of_beq_eq_true hb
        subst this
        rw [hd] at h1; cases h1
      | false => exact h2
    | false =>
      simp only [hd, Bool.not_false, if_true] at h
      unfold look at h ⊢
      cases hb : Nat.beq d t with
      | true =>
        rw [hb] at h
        have := Nat.eq_of_beq_eq_true hb
        subst this
        exact ⟨hd, h⟩
      | false =>
        rw [hb] at h
        exact look_minus l t v e h

theorem AgE.minus {N : Nat} {ds : List Deferred} {e : Env} {a : Act} (h : AgE N ds e a) (l : List Oper) : AgE N ds (minus l e) (match a with | ⟨n, tm, dd⟩ => ⟨n, tm.eraseAll (l.filterMap (·.dst)), dd⟩) := by
  refine ⟨h.n, h.ds, fun t v hv => ?_⟩
  obtain ⟨h1, h2⟩ := look_minus l t v e hv
  show (a.tm.eraseAll (l.filterMap (·.dst))).get t = some v
  rw [T.get_eraseAll, if_neg]
  · exact h.tm t v h2
  · intro hm
    obtain ⟨o, ho1, ho2⟩ := List.mem_filterMap.1 hm
    rw [List.any_eq_false] at h1
    exact absurd (h1 o ho1) (by simp [ho2])

theorem wc_draw {N id : Nat} {ops : Array Oper} {e : Env} {ds : List Deferred} {B : Hp} {K : Kn} {Q : PQ} (p : List Step) (ah : List Nat) (hp : plan ops.toList = p) (hah : aheads ops.toList [] = ah) (hok : planOk ops.toList p = true)
    (h : ∀ base, WD P N ops ah base p e ds B (rsvs base 0 ops.toList ++ K) [(B, K)] none (fun e' B' K' => Q .normal e' ds B' K') (fun ch B' K' => Q (.panic ch) (minus ops.toList e) ds B' K')) : WC P N (.region id ops true) e ds B K Q := by
  intro a A Kf ha hs
  have hs' := hs.region ops.toList
  rw [← List.append_assoc] at hs'
  have h0 : St1 B (K ++ Kf) { A with next := A.next + ops.toList.length } := hs'.sub (by rw [List.append_assoc]; exact List.sublist_append_right _ _)
  obtain ⟨st, ⟨n, g1⟩, g2⟩ := h A.next a _ Kf [{ A with next := A.next + ops.toList.length }] none ha hs' (.cons _ _ _ _ _ h0 .nil) trivial
  have run : ∀ r, (∀ m, n ≤ m → aDraw P eqvC (aS P m) ops a A = r) → ∀ m k, n + 1 ≤ m → n + 1 ≤ k → aCode P eqvC (aS P m) k (.region id ops true) a A = r := by
    intro r hr m k hm hk
    obtain ⟨k', rfl⟩ : ∃ k', k = k' + 1 := ⟨k - 1, by omega⟩
    exact hr m (by omega)
  have unf : ∀ m, n ≤ m → aDraw P eqvC (aS P m) ops a A = (match (some st : Option St) with
      | some { a := a', A := A', pan := none, .. } => some (.normal, a', A')
      | some { pan := some (ch, A', _), .. } => some (.panic ch, (match a with | ⟨n, tm, ds⟩ => ⟨n, tm.eraseAll (ops.toList.filterMap (·.dst)), ds⟩), A')
      | none => none) := by
    intro m hm
    unfold aDraw
    simp only [hp, hah]
    rw [if_pos hok]
    have := g1 m hm
    cases A
    simp only at this ⊢
    rw [this]
    obtain ⟨sa, sA, shs, span⟩ := st
    cases span <;> rfl
  obtain ⟨sa, sA, shs, span⟩ := st
  cases span with
  | none =>
    obtain ⟨e', B', K', k1, k2, k3, k4, k5⟩ := g2
    exact ⟨.normal, sa, sA, e', ds, B', K', ⟨n + 1, run _ unf⟩, k1, k2, k3, k4, k5⟩
  | some q =>
    obtain ⟨ch, Ap, i⟩ := q
    obtain ⟨B', K', k1, k2, k3, k4⟩ := g2
    exact ⟨.panic ch, _, Ap, minus ops.toList e, ds, B', K', ⟨n + 1, run _ unf⟩, ha.minus ops.toList, k1, k2, k3, k4⟩
end
end Go.Ab
