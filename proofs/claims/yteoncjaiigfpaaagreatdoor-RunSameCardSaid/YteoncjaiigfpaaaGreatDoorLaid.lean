import Derived.Test.YteoncjaiigfpaaaGreatDoorAlive
import Derived.Test.YteoncjaiigfpaaaGreatDoorNames
import Derived.Test.YteoncjaiigfpaaaGreatDoorRows
import Derived.LaidMore
import Derived.OpenShut
import Derived.ProofKit
import Derived.Stop.Joined
set_option linter.all false
namespace Go.Proofs
open Ab
set_option maxRecDepth 100000

theorem nil_of_trod {P : Program} {w : World} {base : Nat} {sp : Nat → Bool} {fuel : Nat} {t : TypeId} {ps rs : Array TypeId} {va : Bool} {v : Value} {q : List MemPlace} {H : Type} {enc : TypeId × Value → H}
    (ht : P.underlying t = some (.func ps rs va)) (h : DataW.trod enc P w base sp true fuel t [v] = some (.nil, q)) : v = .nilFunc := by
  cases fuel with
  | zero => simp [DataW.trod] at h
  | succ n =>
    unfold DataW.trod at h
    rw [ht] at h
    split at h <;> simp_all


/-- The cells of an array, one by one. -/
theorem arr_cells {P : Program} {w : World} {t e : TypeId} {n : Nat} {fuel : Nat} {cs : List Value} {H : Type} {enc : TypeId × Value → H} {ds : List (DataW H)} {p : List MemPlace} (ht : P.underlying t = some (.array n e)) (h1 : P.cellsOf e = 1) (hn : P.cellsOf t = n)
    (h : DataW.trod enc P w 0 (fun _ => true) true fuel t cs = some (.agg ds, p)) : cs.length = n ∧ ∀ (i : Nat) (d : DataW H), ds[i]? = some d → ∃ v m q, cs[i]? = some v ∧ DataW.trod enc P w 0 (fun _ => true) true m e [v] = some (d, q) := by
  obtain ⟨xs, m, rfl, hx, hlen, hxl, hall⟩ := DataW.trod_array ht h
  refine ⟨hlen.trans hn, fun i d hd => ?_⟩
  simp only [Prod.mk.injEq, DataW.agg.injEq] at hx
  obtain ⟨rfl, -⟩ := hx
  rw [List.getElem?_map] at hd
  cases hxi : xs[i]? with
  | none => rw [hxi] at hd; cases hd
  | some x =>
    rw [hxi] at hd
    simp only [Option.map_some, Option.some.injEq] at hd
    subst hd
    have hi : i < n := by rw [← hxl]; exact (List.getElem?_eq_some_iff.1 hxi).1
    have hic : i < cs.length := by rw [hlen, hn]; exact hi
    have := hall i hi
    rw [h1, Nat.mul_one, hxi] at this
    have e1 : (cs.drop i).take 1 = [cs[i]] := by
      rw [List.drop_eq_getElem_cons hic]; rfl
    rw [e1] at this
    exact ⟨cs[i], m, x.2, List.getElem?_eq_getElem hic, this⟩

/-- A struct of one cell. -/
theorem one_cell {P : Program} {w : World} {t : TypeId} {f : Field} {fuel : Nat} {v : Value} {H : Type} {enc : TypeId × Value → H} {d : DataW H} {p : List MemPlace} (ht : P.underlying t = some (.struct #[f])) (h0 : f.offset = 0) (h1 : P.cellsOf f.type = 1)
    (h : DataW.trod enc P w 0 (fun _ => true) true fuel t [v] = some (.agg [d], p)) : ∃ m q, DataW.trod enc P w 0 (fun _ => true) true m f.type [v] = some (d, q) := by
  obtain ⟨xs, m, rfl, hx, hlen, hxl, hall⟩ := DataW.trod_struct ht h
  simp only [Prod.mk.injEq, DataW.agg.injEq] at hx
  obtain ⟨hx, -⟩ := hx
  have := hall 0 f rfl
  rw [h0, h1] at this
  cases xs with
  | nil => simp at hx
  | cons x xs =>
    simp only [List.map_cons, List.cons.injEq] at hx
    refine ⟨m, x.2, ?_⟩
    simp only [List.drop_zero, List.take_succ_cons, List.take_zero, List.getElem?_cons_zero] at this
    rw [this, hx.1]

open YteoncjaiigfpaaaGreatDoor
def out0 : List (DataW (List UInt8)) := [(.agg [.nil]), (.agg [(.held [117, 110, 100, 101, 114, 119, 111, 111, 100, 47, 115, 112, 108, 105, 116, 46, 78, 101, 120, 116])]), (.agg [(.held [117, 110, 100, 101, 114, 119, 111, 111, 100, 47, 115, 112, 108, 105, 116, 46, 78, 101, 120, 116])]), (.agg [(.held [117, 110, 100, 101, 114, 119, 111, 111, 100, 47, 115, 112, 108, 105, 116, 46, 78, 101, 120, 116])]), (.agg [(.held [117, 110, 100, 101, 114, 119, 111, 111, 100, 47, 101, 108, 105, 109, 46, 78, 101, 120, 116])]), (.agg [(.held [117, 110, 100, 101, 114, 119, 111, 111, 100, 47, 101, 108, 105, 109, 46, 78, 101, 120, 116])]), (.agg [(.held [117, 110, 100, 101, 114, 119, 111, 111, 100, 47, 115, 101, 103, 109, 101, 110, 116, 46, 78, 101, 120, 116])]), (.agg [(.held [117, 110, 100, 101, 114, 119, 111, 111, 100, 47, 115, 101, 103, 109, 101, 110, 116, 46, 78, 101, 120, 116])])]
theorem out0_eq : (Rows.laid_underwood_obj_programs (H := Unit)).funcsIn?.map DataW.funcsOut = some (.agg out0) := by kernel_rfl
theorem tab0 {w : World} {d : DataW Unit} (hd : d.funcsOut = .agg out0) (h : funcsAt Tryz.prog w "underwood/obj.programs" d) : ∃ arr el fz, w.heap[0]? = some (.cells arr el fz) ∧ arr.toList = [.nilFunc, .func (.func 356) #[] #[], .func (.func 356) #[] #[], .func (.func 356) #[] #[], .func (.func 357) #[] #[], .func (.func 357) #[] #[], .func (.func 358) #[] #[], .func (.func 358) #[] #[]] := by
  obtain ⟨g, t, cs, fuel, p, hg, ht, hv, htr⟩ := h
  obtain rfl := Option.some.inj ((show Tryz.prog.globalNamed "underwood/obj.programs" = some 0 by kernel_rfl).symm.trans hg)
  obtain rfl := Option.some.inj ((show (Tryz.prog.globals[0]?).map (·.type) = some 281 by kernel_rfl).symm.trans ht)
  rw [hd] at htr
  obtain ⟨hlen, hall⟩ := arr_cells Tryz.underlying281 (by kernel_rfl) (by kernel_rfl) htr
  obtain ⟨v0, m0, q0, hc0, ht0⟩ := hall 0 _ rfl
  obtain ⟨m0, q0, ht0⟩ := one_cell Tryz.underlying280 rfl (by kernel_rfl) ht0
  obtain rfl := nil_of_trod Tryz.underlying162 ht0
  obtain ⟨v1, m1, q1, hc1, ht1⟩ := hall 1 _ rfl
  obtain ⟨m1, q1, ht1⟩ := one_cell Tryz.underlying280 rfl (by kernel_rfl) ht1
  obtain rfl := func_of_trod (f0 := 356) Tryz.underlying162 named0_356 ht1
  obtain ⟨v2, m2, q2, hc2, ht2⟩ := hall 2 _ rfl
  obtain ⟨m2, q2, ht2⟩ := one_cell Tryz.underlying280 rfl (by kernel_rfl) ht2
  obtain rfl := func_of_trod (f0 := 356) Tryz.underlying162 named0_356 ht2
  obtain ⟨v3, m3, q3, hc3, ht3⟩ := hall 3 _ rfl
  obtain ⟨m3, q3, ht3⟩ := one_cell Tryz.underlying280 rfl (by kernel_rfl) ht3
  obtain rfl := func_of_trod (f0 := 356) Tryz.underlying162 named0_356 ht3
  obtain ⟨v4, m4, q4, hc4, ht4⟩ := hall 4 _ rfl
  obtain ⟨m4, q4, ht4⟩ := one_cell Tryz.underlying280 rfl (by kernel_rfl) ht4
  obtain rfl := func_of_trod (f0 := 357) Tryz.underlying162 named0_357 ht4
  obtain ⟨v5, m5, q5, hc5, ht5⟩ := hall 5 _ rfl
  obtain ⟨m5, q5, ht5⟩ := one_cell Tryz.underlying280 rfl (by kernel_rfl) ht5
  obtain rfl := func_of_trod (f0 := 357) Tryz.underlying162 named0_357 ht5
  obtain ⟨v6, m6, q6, hc6, ht6⟩ := hall 6 _ rfl
  obtain ⟨m6, q6, ht6⟩ := one_cell Tryz.underlying280 rfl (by kernel_rfl) ht6
  obtain rfl := func_of_trod (f0 := 358) Tryz.underlying162 named0_358 ht6
  obtain ⟨v7, m7, q7, hc7, ht7⟩ := hall 7 _ rfl
  obtain ⟨m7, q7, ht7⟩ := one_cell Tryz.underlying280 rfl (by kernel_rfl) ht7
  obtain rfl := func_of_trod (f0 := 358) Tryz.underlying162 named0_358 ht7
  simp only [World.var?, hg, Option.bind_some] at hv
  split at hv
  · next cs' el fz hw =>
    cases hv
    refine ⟨cs, el, fz, hw, ?_⟩
    apply List.ext_getElem?
    intro i
    rcases Nat.lt_or_ge i 8 with hi | hi
    · rcases Nat.lt_or_eq_of_le (Nat.le_of_lt_succ (show i < 8 from by omega)) with hi | rfl; rotate_left; exact hc7
      rcases Nat.lt_or_eq_of_le (Nat.le_of_lt_succ (show i < 7 from by omega)) with hi | rfl; rotate_left; exact hc6
      rcases Nat.lt_or_eq_of_le (Nat.le_of_lt_succ (show i < 6 from by omega)) with hi | rfl; rotate_left; exact hc5
      rcases Nat.lt_or_eq_of_le (Nat.le_of_lt_succ (show i < 5 from by omega)) with hi | rfl; rotate_left; exact hc4
      rcases Nat.lt_or_eq_of_le (Nat.le_of_lt_succ (show i < 4 from by omega)) with hi | rfl; rotate_left; exact hc3
      rcases Nat.lt_or_eq_of_le (Nat.le_of_lt_succ (show i < 3 from by omega)) with hi | rfl; rotate_left; exact hc2
      rcases Nat.lt_or_eq_of_le (Nat.le_of_lt_succ (show i < 2 from by omega)) with hi | rfl; rotate_left; exact hc1
      rcases Nat.lt_or_eq_of_le (Nat.le_of_lt_succ (show i < 1 from by omega)) with hi | rfl; rotate_left; exact hc0
      omega
    · rw [List.getElem?_eq_none (by omega), List.getElem?_eq_none (by simpa using hi)]
  · cases hv

def out1 : List (DataW (List UInt8)) := [.nil, .nil, .nil, .nil, .nil, .nil, .nil, .nil, (.held [40, 117, 110, 100, 101, 114, 119, 111, 111, 100, 47, 100, 101, 113, 117, 101, 46, 119, 111, 114, 107, 41, 46, 112, 117, 115, 104]), (.held [40, 117, 110, 100, 101, 114, 119, 111, 111, 100, 47, 100, 101, 113, 117, 101, 46, 119, 111, 114, 107, 41, 46, 112, 111, 112]), (.held [40, 117, 110, 100, 101, 114, 119, 111, 111, 100, 47, 100, 101, 113, 117, 101, 46, 119, 111, 114, 107, 41, 46, 115, 116, 101, 97, 108])]
theorem out1_eq : (Rows.laid_underwood_deque_kinds (H := Unit)).funcsIn?.map DataW.funcsOut = some (.agg out1) := by kernel_rfl
theorem tab1 {w : World} {d : DataW Unit} (hd : d.funcsOut = .agg out1) (h : funcsAt Tryz.prog w "underwood/deque.kinds" d) : ∃ arr el fz, w.heap[1]? = some (.cells arr el fz) ∧ arr.toList = [.nilFunc, .nilFunc, .nilFunc, .nilFunc, .nilFunc, .nilFunc, .nilFunc, .nilFunc, .func (.func 414) #[] #[], .func (.func 415) #[] #[], .func (.func 416) #[] #[]] := by
  obtain ⟨g, t, cs, fuel, p, hg, ht, hv, htr⟩ := h
  obtain rfl := Option.some.inj ((show Tryz.prog.globalNamed "underwood/deque.kinds" = some 1 by kernel_rfl).symm.trans hg)
  obtain rfl := Option.some.inj ((show (Tryz.prog.globals[1]?).map (·.type) = some 284 by kernel_rfl).symm.trans ht)
  rw [hd] at htr
  obtain ⟨hlen, hall⟩ := arr_cells Tryz.underlying284 (by kernel_rfl) (by kernel_rfl) htr
  obtain ⟨v0, m0, q0, hc0, ht0⟩ := hall 0 _ rfl
  obtain rfl := nil_of_trod Tryz.underlying283 ht0
  obtain ⟨v1, m1, q1, hc1, ht1⟩ := hall 1 _ rfl
  obtain rfl := nil_of_trod Tryz.underlying283 ht1
  obtain ⟨v2, m2, q2, hc2, ht2⟩ := hall 2 _ rfl
  obtain rfl := nil_of_trod Tryz.underlying283 ht2
  obtain ⟨v3, m3, q3, hc3, ht3⟩ := hall 3 _ rfl
  obtain rfl := nil_of_trod Tryz.underlying283 ht3
  obtain ⟨v4, m4, q4, hc4, ht4⟩ := hall 4 _ rfl
  obtain rfl := nil_of_trod Tryz.underlying283 ht4
  obtain ⟨v5, m5, q5, hc5, ht5⟩ := hall 5 _ rfl
  obtain rfl := nil_of_trod Tryz.underlying283 ht5
  obtain ⟨v6, m6, q6, hc6, ht6⟩ := hall 6 _ rfl
  obtain rfl := nil_of_trod Tryz.underlying283 ht6
  obtain ⟨v7, m7, q7, hc7, ht7⟩ := hall 7 _ rfl
  obtain rfl := nil_of_trod Tryz.underlying283 ht7
  obtain ⟨v8, m8, q8, hc8, ht8⟩ := hall 8 _ rfl
  obtain rfl := func_of_trod (f0 := 414) Tryz.underlying283 named1_414 ht8
  obtain ⟨v9, m9, q9, hc9, ht9⟩ := hall 9 _ rfl
  obtain rfl := func_of_trod (f0 := 415) Tryz.underlying283 named1_415 ht9
  obtain ⟨v10, m10, q10, hc10, ht10⟩ := hall 10 _ rfl
  obtain rfl := func_of_trod (f0 := 416) Tryz.underlying283 named1_416 ht10
  simp only [World.var?, hg, Option.bind_some] at hv
  split at hv
  · next cs' el fz hw =>
    cases hv
    refine ⟨cs, el, fz, hw, ?_⟩
    apply List.ext_getElem?
    intro i
    rcases Nat.lt_or_ge i 11 with hi | hi
    · rcases Nat.lt_or_eq_of_le (Nat.le_of_lt_succ (show i < 11 from by omega)) with hi | rfl; rotate_left; exact hc10
      rcases Nat.lt_or_eq_of_le (Nat.le_of_lt_succ (show i < 10 from by omega)) with hi | rfl; rotate_left; exact hc9
      rcases Nat.lt_or_eq_of_le (Nat.le_of_lt_succ (show i < 9 from by omega)) with hi | rfl; rotate_left; exact hc8
      rcases Nat.lt_or_eq_of_le (Nat.le_of_lt_succ (show i < 8 from by omega)) with hi | rfl; rotate_left; exact hc7
      rcases Nat.lt_or_eq_of_le (Nat.le_of_lt_succ (show i < 7 from by omega)) with hi | rfl; rotate_left; exact hc6
      rcases Nat.lt_or_eq_of_le (Nat.le_of_lt_succ (show i < 6 from by omega)) with hi | rfl; rotate_left; exact hc5
      rcases Nat.lt_or_eq_of_le (Nat.le_of_lt_succ (show i < 5 from by omega)) with hi | rfl; rotate_left; exact hc4
      rcases Nat.lt_or_eq_of_le (Nat.le_of_lt_succ (show i < 4 from by omega)) with hi | rfl; rotate_left; exact hc3
      rcases Nat.lt_or_eq_of_le (Nat.le_of_lt_succ (show i < 3 from by omega)) with hi | rfl; rotate_left; exact hc2
      rcases Nat.lt_or_eq_of_le (Nat.le_of_lt_succ (show i < 2 from by omega)) with hi | rfl; rotate_left; exact hc1
      rcases Nat.lt_or_eq_of_le (Nat.le_of_lt_succ (show i < 1 from by omega)) with hi | rfl; rotate_left; exact hc0
      omega
    · rw [List.getElem?_eq_none (by omega), List.getElem?_eq_none (by simpa using hi)]
  · cases hv

def out2 : List (DataW (List UInt8)) := [(.agg [.nil]), (.agg [(.held [117, 110, 100, 101, 114, 119, 111, 111, 100, 47, 118, 109, 46, 97, 108, 108, 36, 49])]), (.agg [(.held [117, 110, 100, 101, 114, 119, 111, 111, 100, 47, 118, 109, 46, 97, 108, 108, 36, 50])]), (.agg [(.held [117, 110, 100, 101, 114, 119, 111, 111, 100, 47, 118, 109, 46, 97, 108, 108, 36, 51])]), (.agg [(.held [117, 110, 100, 101, 114, 119, 111, 111, 100, 47, 118, 109, 46, 97, 108, 108, 36, 52])]), (.agg [(.held [117, 110, 100, 101, 114, 119, 111, 111, 100, 47, 118, 109, 46, 97, 108, 108, 36, 53])]), (.agg [(.held [117, 110, 100, 101, 114, 119, 111, 111, 100, 47, 118, 109, 46, 97, 108, 108, 36, 54])]), (.agg [(.held [117, 110, 100, 101, 114, 119, 111, 111, 100, 47, 118, 109, 46, 97, 108, 108, 36, 55])]), (.agg [(.held [117, 110, 100, 101, 114, 119, 111, 111, 100, 47, 118, 109, 46, 97, 108, 108, 36, 56])]), (.agg [(.held [117, 110, 100, 101, 114, 119, 111, 111, 100, 47, 118, 109, 46, 97, 108, 108, 36, 57])]), (.agg [(.held [117, 110, 100, 101, 114, 119, 111, 111, 100, 47, 118, 109, 46, 97, 108, 108, 36, 49, 48])]), (.agg [(.held [40, 42, 117, 110, 100, 101, 114, 119, 111, 111, 100, 47, 118, 109, 46, 114, 117, 110, 41, 46, 99, 97, 108, 108])]), (.agg [(.held [117, 110, 100, 101, 114, 119, 111, 111, 100, 47, 118, 109, 46, 97, 108, 108, 36, 49, 49])]), (.agg [(.held [40, 42, 117, 110, 100, 101, 114, 119, 111, 111, 100, 47, 118, 109, 46, 114, 117, 110, 41, 46, 115, 112, 97, 119, 110])]), (.agg [(.held [117, 110, 100, 101, 114, 119, 111, 111, 100, 47, 118, 109, 46, 97, 108, 108, 36, 49, 50])]), (.agg [(.held [117, 110, 100, 101, 114, 119, 111, 111, 100, 47, 118, 109, 46, 97, 108, 108, 36, 49, 51])]), (.agg [(.held [117, 110, 100, 101, 114, 119, 111, 111, 100, 47, 118, 109, 46, 97, 108, 108, 36, 49, 52])]), (.agg [(.held [117, 110, 100, 101, 114, 119, 111, 111, 100, 47, 118, 109, 46, 97, 108, 108, 36, 49, 53])]), (.agg [(.held [117, 110, 100, 101, 114, 119, 111, 111, 100, 47, 118, 109, 46, 97, 108, 108, 36, 49, 54])]), (.agg [(.held [117, 110, 100, 101, 114, 119, 111, 111, 100, 47, 118, 109, 46, 97, 108, 108, 36, 49, 55])])]
theorem out2_eq : (Rows.laid_underwood_vm_all (H := Unit)).funcsIn?.map DataW.funcsOut = some (.agg out2) := by kernel_rfl
theorem tab2 {w : World} {d : DataW Unit} (hd : d.funcsOut = .agg out2) (h : funcsAt Tryz.prog w "underwood/vm.all" d) : ∃ arr el fz, w.heap[2]? = some (.cells arr el fz) ∧ arr.toList = [.nilFunc, .func (.func 432) #[] #[], .func (.func 434) #[] #[], .func (.func 437) #[] #[], .func (.func 439) #[] #[], .func (.func 441) #[] #[], .func (.func 442) #[] #[], .func (.func 445) #[] #[], .func (.func 447) #[] #[], .func (.func 449) #[] #[], .func (.func 451) #[] #[], .func (.func 453) #[] #[], .func (.func 454) #[] #[], .func (.func 455) #[] #[], .func (.func 456) #[] #[], .func (.func 457) #[] #[], .func (.func 459) #[] #[], .func (.func 460) #[] #[], .func (.func 461) #[] #[], .func (.func 462) #[] #[]] := by
  obtain ⟨g, t, cs, fuel, p, hg, ht, hv, htr⟩ := h
  obtain rfl := Option.some.inj ((show Tryz.prog.globalNamed "underwood/vm.all" = some 2 by kernel_rfl).symm.trans hg)
  obtain rfl := Option.some.inj ((show (Tryz.prog.globals[2]?).map (·.type) = some 316 by kernel_rfl).symm.trans ht)
  rw [hd] at htr
  obtain ⟨hlen, hall⟩ := arr_cells Tryz.underlying316 (by kernel_rfl) (by kernel_rfl) htr
  obtain ⟨v0, m0, q0, hc0, ht0⟩ := hall 0 _ rfl
  obtain ⟨m0, q0, ht0⟩ := one_cell Tryz.underlying315 rfl (by kernel_rfl) ht0
  obtain rfl := nil_of_trod Tryz.underlying313 ht0
  obtain ⟨v1, m1, q1, hc1, ht1⟩ := hall 1 _ rfl
  obtain ⟨m1, q1, ht1⟩ := one_cell Tryz.underlying315 rfl (by kernel_rfl) ht1
  obtain rfl := func_of_trod (f0 := 432) Tryz.underlying313 named2_432 ht1
  obtain ⟨v2, m2, q2, hc2, ht2⟩ := hall 2 _ rfl
  obtain ⟨m2, q2, ht2⟩ := one_cell Tryz.underlying315 rfl (by kernel_rfl) ht2
  obtain rfl := func_of_trod (f0 := 434) Tryz.underlying313 named2_434 ht2
  obtain ⟨v3, m3, q3, hc3, ht3⟩ := hall 3 _ rfl
  obtain ⟨m3, q3, ht3⟩ := one_cell Tryz.underlying315 rfl (by kernel_rfl) ht3
  obtain rfl := func_of_trod (f0 := 437) Tryz.underlying313 named2_437 ht3
  obtain ⟨v4, m4, q4, hc4, ht4⟩ := hall 4 _ rfl
  obtain ⟨m4, q4, ht4⟩ := one_cell Tryz.underlying315 rfl (by kernel_rfl) ht4
  obtain rfl := func_of_trod (f0 := 439) Tryz.underlying313 named2_439 ht4
  obtain ⟨v5, m5, q5, hc5, ht5⟩ := hall 5 _ rfl
  obtain ⟨m5, q5, ht5⟩ := one_cell Tryz.underlying315 rfl (by kernel_rfl) ht5
  obtain rfl := func_of_trod (f0 := 441) Tryz.underlying313 named2_441 ht5
  obtain ⟨v6, m6, q6, hc6, ht6⟩ := hall 6 _ rfl
  obtain ⟨m6, q6, ht6⟩ := one_cell Tryz.underlying315 rfl (by kernel_rfl) ht6
  obtain rfl := func_of_trod (f0 := 442) Tryz.underlying313 named2_442 ht6
  obtain ⟨v7, m7, q7, hc7, ht7⟩ := hall 7 _ rfl
  obtain ⟨m7, q7, ht7⟩ := one_cell Tryz.underlying315 rfl (by kernel_rfl) ht7
  obtain rfl := func_of_trod (f0 := 445) Tryz.underlying313 named2_445 ht7
  obtain ⟨v8, m8, q8, hc8, ht8⟩ := hall 8 _ rfl
  obtain ⟨m8, q8, ht8⟩ := one_cell Tryz.underlying315 rfl (by kernel_rfl) ht8
  obtain rfl := func_of_trod (f0 := 447) Tryz.underlying313 named2_447 ht8
  obtain ⟨v9, m9, q9, hc9, ht9⟩ := hall 9 _ rfl
  obtain ⟨m9, q9, ht9⟩ := one_cell Tryz.underlying315 rfl (by kernel_rfl) ht9
  obtain rfl := func_of_trod (f0 := 449) Tryz.underlying313 named2_449 ht9
  obtain ⟨v10, m10, q10, hc10, ht10⟩ := hall 10 _ rfl
  obtain ⟨m10, q10, ht10⟩ := one_cell Tryz.underlying315 rfl (by kernel_rfl) ht10
  obtain rfl := func_of_trod (f0 := 451) Tryz.underlying313 named2_451 ht10
  obtain ⟨v11, m11, q11, hc11, ht11⟩ := hall 11 _ rfl
  obtain ⟨m11, q11, ht11⟩ := one_cell Tryz.underlying315 rfl (by kernel_rfl) ht11
  obtain rfl := func_of_trod (f0 := 453) Tryz.underlying313 named2_453 ht11
  obtain ⟨v12, m12, q12, hc12, ht12⟩ := hall 12 _ rfl
  obtain ⟨m12, q12, ht12⟩ := one_cell Tryz.underlying315 rfl (by kernel_rfl) ht12
  obtain rfl := func_of_trod (f0 := 454) Tryz.underlying313 named2_454 ht12
  obtain ⟨v13, m13, q13, hc13, ht13⟩ := hall 13 _ rfl
  obtain ⟨m13, q13, ht13⟩ := one_cell Tryz.underlying315 rfl (by kernel_rfl) ht13
  obtain rfl := func_of_trod (f0 := 455) Tryz.underlying313 named2_455 ht13
  obtain ⟨v14, m14, q14, hc14, ht14⟩ := hall 14 _ rfl
  obtain ⟨m14, q14, ht14⟩ := one_cell Tryz.underlying315 rfl (by kernel_rfl) ht14
  obtain rfl := func_of_trod (f0 := 456) Tryz.underlying313 named2_456 ht14
  obtain ⟨v15, m15, q15, hc15, ht15⟩ := hall 15 _ rfl
  obtain ⟨m15, q15, ht15⟩ := one_cell Tryz.underlying315 rfl (by kernel_rfl) ht15
  obtain rfl := func_of_trod (f0 := 457) Tryz.underlying313 named2_457 ht15
  obtain ⟨v16, m16, q16, hc16, ht16⟩ := hall 16 _ rfl
  obtain ⟨m16, q16, ht16⟩ := one_cell Tryz.underlying315 rfl (by kernel_rfl) ht16
  obtain rfl := func_of_trod (f0 := 459) Tryz.underlying313 named2_459 ht16
  obtain ⟨v17, m17, q17, hc17, ht17⟩ := hall 17 _ rfl
  obtain ⟨m17, q17, ht17⟩ := one_cell Tryz.underlying315 rfl (by kernel_rfl) ht17
  obtain rfl := func_of_trod (f0 := 460) Tryz.underlying313 named2_460 ht17
  obtain ⟨v18, m18, q18, hc18, ht18⟩ := hall 18 _ rfl
  obtain ⟨m18, q18, ht18⟩ := one_cell Tryz.underlying315 rfl (by kernel_rfl) ht18
  obtain rfl := func_of_trod (f0 := 461) Tryz.underlying313 named2_461 ht18
  obtain ⟨v19, m19, q19, hc19, ht19⟩ := hall 19 _ rfl
  obtain ⟨m19, q19, ht19⟩ := one_cell Tryz.underlying315 rfl (by kernel_rfl) ht19
  obtain rfl := func_of_trod (f0 := 462) Tryz.underlying313 named2_462 ht19
  simp only [World.var?, hg, Option.bind_some] at hv
  split at hv
  · next cs' el fz hw =>
    cases hv
    refine ⟨cs, el, fz, hw, ?_⟩
    apply List.ext_getElem?
    intro i
    rcases Nat.lt_or_ge i 20 with hi | hi
    · rcases Nat.lt_or_eq_of_le (Nat.le_of_lt_succ (show i < 20 from by omega)) with hi | rfl; rotate_left; exact hc19
      rcases Nat.lt_or_eq_of_le (Nat.le_of_lt_succ (show i < 19 from by omega)) with hi | rfl; rotate_left; exact hc18
      rcases Nat.lt_or_eq_of_le (Nat.le_of_lt_succ (show i < 18 from by omega)) with hi | rfl; rotate_left; exact hc17
      rcases Nat.lt_or_eq_of_le (Nat.le_of_lt_succ (show i < 17 from by omega)) with hi | rfl; rotate_left; exact hc16
      rcases Nat.lt_or_eq_of_le (Nat.le_of_lt_succ (show i < 16 from by omega)) with hi | rfl; rotate_left; exact hc15
      rcases Nat.lt_or_eq_of_le (Nat.le_of_lt_succ (show i < 15 from by omega)) with hi | rfl; rotate_left; exact hc14
      rcases Nat.lt_or_eq_of_le (Nat.le_of_lt_succ (show i < 14 from by omega)) with hi | rfl; rotate_left; exact hc13
      rcases Nat.lt_or_eq_of_le (Nat.le_of_lt_succ (show i < 13 from by omega)) with hi | rfl; rotate_left; exact hc12
      rcases Nat.lt_or_eq_of_le (Nat.le_of_lt_succ (show i < 12 from by omega)) with hi | rfl; rotate_left; exact hc11
      rcases Nat.lt_or_eq_of_le (Nat.le_of_lt_succ (show i < 11 from by omega)) with hi | rfl; rotate_left; exact hc10
      rcases Nat.lt_or_eq_of_le (Nat.le_of_lt_succ (show i < 10 from by omega)) with hi | rfl; rotate_left; exact hc9
      rcases Nat.lt_or_eq_of_le (Nat.le_of_lt_succ (show i < 9 from by omega)) with hi | rfl; rotate_left; exact hc8
      rcases Nat.lt_or_eq_of_le (Nat.le_of_lt_succ (show i < 8 from by omega)) with hi | rfl; rotate_left; exact hc7
      rcases Nat.lt_or_eq_of_le (Nat.le_of_lt_succ (show i < 7 from by omega)) with hi | rfl; rotate_left; exact hc6
      rcases Nat.lt_or_eq_of_le (Nat.le_of_lt_succ (show i < 6 from by omega)) with hi | rfl; rotate_left; exact hc5
      rcases Nat.lt_or_eq_of_le (Nat.le_of_lt_succ (show i < 5 from by omega)) with hi | rfl; rotate_left; exact hc4
      rcases Nat.lt_or_eq_of_le (Nat.le_of_lt_succ (show i < 4 from by omega)) with hi | rfl; rotate_left; exact hc3
      rcases Nat.lt_or_eq_of_le (Nat.le_of_lt_succ (show i < 3 from by omega)) with hi | rfl; rotate_left; exact hc2
      rcases Nat.lt_or_eq_of_le (Nat.le_of_lt_succ (show i < 2 from by omega)) with hi | rfl; rotate_left; exact hc1
      rcases Nat.lt_or_eq_of_le (Nat.le_of_lt_succ (show i < 1 from by omega)) with hi | rfl; rotate_left; exact hc0
      omega
    · rw [List.getElem?_eq_none (by omega), List.getElem?_eq_none (by simpa using hi)]
  · cases hv

end Go.Proofs
