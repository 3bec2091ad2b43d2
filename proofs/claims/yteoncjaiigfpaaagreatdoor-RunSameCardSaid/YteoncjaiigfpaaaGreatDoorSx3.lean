import Derived.Test.YteoncjaiigfpaaaGreatDoorSx2
import Derived.KernelRfl
set_option linter.all false
namespace Go.Ab
noncomputable section

def sameTyI (x y : TyI) : Bool := decide (x.d = y.d) && x.size == y.size && x.agg == y.agg && match x.zero, y.zero with
  | none, none => true
  | some a, some b => sameVals a b
  | _, _ => false

theorem sameTyI_eq {x y : TyI} (h : sameTyI x y = true) : x = y := by
  obtain ⟨d, s, c, z⟩ := x
  obtain ⟨d', s', c', z'⟩ := y
  simp only [sameTyI, Bool.and_eq_true, decide_eq_true_eq, beq_iff_eq] at h
  obtain ⟨⟨⟨rfl, rfl⟩, rfl⟩, h⟩ := h
  cases z <;> cases z' <;> simp at h ⊢
  exact sameVals_eq h

def tabCheck (P : Program) (n : Nat) (tt : T TyI) : Bool := (List.range n).all fun t => match tt.get t with
  | none => true
  | some x => match tyOf P t with
    | some y => sameTyI y x
    | none => false
def tabGet (n : Nat) (tt : T TyI) (t : Nat) : Option TyI := bif Nat.blt t n then tt.get t else none

theorem tab_ok {P : Program} {n : Nat} {tt : T TyI} (h : tabCheck P n tt = true) (t : Nat) (x : TyI) (hx : tabGet n tt t = some x) : tyOf P t = some x := by
  unfold tabGet at hx
  cases hb : Nat.blt t n with
  | false => rw [hb] at hx; cases hx
  | true =>
    rw [hb] at hx
    have ht : t < n := by simpa [Nat.blt_eq] using hb
    have h1 := List.all_eq_true.1 h t (List.mem_range.2 ht)
    simp only [cond_true] at hx
    rw [hx] at h1
    simp only at h1
    split at h1
    · next y hy => rw [hy, sameTyI_eq h1]
    · cases h1
end
end Go.Ab

namespace Go.Ab
/-! How data lie in memory. -/

/-- A slice of elements of sz cells, each of which reads as R says. -/
def SlB {α : Type} (sz : Nat) (R : Hp → List Value → α → Prop) (B : Hp) (v : Value) (xs : List α) : Prop :=
  ∃ base cap, v = .slice base xs.length cap ∧ xs.length ≤ 9223372036854775807 ∧ ∀ i x, xs[i]? = some x → ∃ b off vs, base = some ⟨b, off, none⟩ ∧ vs.length = sz ∧ RdB B b (off + i * sz) vs ∧ R B vs x

theorem SlB.mono {α : Type} {sz : Nat} {R : Hp → List Value → α → Prop} (hR : ∀ B B' vs x, BLe B B' → R B vs x → R B' vs x) {B B' : Hp} {v : Value} {xs : List α} (h : SlB sz R B v xs) (hb : BLe B B') : SlB sz R B' v xs := by
  obtain ⟨base, cap, rfl, h0, h1⟩ := h
  refine ⟨base, cap, rfl, h0, fun i x hx => ?_⟩
  obtain ⟨b, off, vs, h2, h3, h4, h5⟩ := h1 i x hx
  exact ⟨b, off, vs, h2, h3, h4.mono hb, hR _ _ _ _ hb h5⟩

def intR (_ : Hp) (vs : List Value) (n : Int) : Prop := vs = [.int .i64 n]
theorem intR_mono (B B' : Hp) (vs : List Value) (x : Int) (_ : BLe B B') (h : intR B vs x) : intR B' vs x := h
def Ints (B : Hp) (v : Value) (xs : List Int) : Prop := SlB 1 intR B v xs
theorem Ints.mono {B B' : Hp} {v : Value} {xs : List Int} (h : Ints B v xs) (hb : BLe B B') : Ints B' v xs := SlB.mono intR_mono h hb

/-- An element that is one slice. -/
def sliceR {α : Type} (S : Hp → Value → List α → Prop) (B : Hp) (vs : List Value) (x : List α) : Prop := ∃ b c, vs = [.slice b x.length c] ∧ S B (.slice b x.length c) x
def IntRows (B : Hp) (v : Value) (xs : List (List Int)) : Prop := SlB 1 (sliceR Ints) B v xs
theorem IntRows.mono {B B' : Hp} {v : Value} {xs : List (List Int)} (h : IntRows B v xs) (hb : BLe B B') : IntRows B' v xs :=
  SlB.mono (fun _ _ _ _ hb ⟨b, c, h1, h2⟩ => ⟨b, c, h1, h2.mono hb⟩) h hb

structure Cont where
  kind : Int
  keys : List Int
  vals : List Int
  deriving DecidableEq
def contR (B : Hp) (vs : List Value) (c : Cont) : Prop := ∃ kb kc vb vc, vs = [.int .i64 c.kind, .slice kb c.keys.length kc, .slice vb c.vals.length vc] ∧ Ints B (.slice kb c.keys.length kc) c.keys ∧ Ints B (.slice vb c.vals.length vc) c.vals
theorem contR_mono (B B' : Hp) (vs : List Value) (c : Cont) (hb : BLe B B') (h : contR B vs c) : contR B' vs c := by
  obtain ⟨kb, kc, vb, vc, h1, h2, h3⟩ := h
  exact ⟨kb, kc, vb, vc, h1, h2.mono hb, h3.mono hb⟩
def Conts (B : Hp) (v : Value) (xs : List Cont) : Prop := SlB 3 contR B v xs
theorem Conts.mono {B B' : Hp} {v : Value} {xs : List Cont} (h : Conts B v xs) (hb : BLe B B') : Conts B' v xs := SlB.mono contR_mono h hb

structure Shp where
  err : Int
  value : Int
  cells : List Int
  maps : List Cont
  stack : List Cont
  chans : List Cont
  tasks : Int
  fails : List (List Int)
  deriving DecidableEq
def shpR (B : Hp) (vs : List Value) (s : Shp) : Prop := ∃ a a' b b' c c' d d' f f', vs = [.int .i64 s.err, .int .i64 s.value, .slice a s.cells.length a', .slice b s.maps.length b', .slice c s.stack.length c', .slice d s.chans.length d', .int .i64 s.tasks, .slice f s.fails.length f'] ∧
  Ints B (.slice a s.cells.length a') s.cells ∧ Conts B (.slice b s.maps.length b') s.maps ∧ Conts B (.slice c s.stack.length c') s.stack ∧ Conts B (.slice d s.chans.length d') s.chans ∧ IntRows B (.slice f s.fails.length f') s.fails
theorem shpR_mono (B B' : Hp) (vs : List Value) (s : Shp) (hb : BLe B B') (h : shpR B vs s) : shpR B' vs s := by
  obtain ⟨a, a', b, b', c, c', d, d', f, f', h1, h2, h3, h4, h5, h6⟩ := h
  exact ⟨a, a', b, b', c, c', d, d', f, f', h1, h2.mono hb, h3.mono hb, h4.mono hb, h5.mono hb, h6.mono hb⟩

theorem list_eq_of {α : Type} {xs ys : List α} {k : Nat} (hl : xs.length = ys.length) (hk : xs.length ≤ k) (h : ∀ i, i < k → xs[i]? = ys[i]?) : xs = ys := by
  apply List.ext_getElem?
  intro i
  rcases Nat.lt_or_ge i k with hi | hi
  · exact h i hi
  · rw [List.getElem?_eq_none (by omega), List.getElem?_eq_none (by omega)]
end Go.Ab
