/-
  RunSame: of any two shapes, and of each and itself, Same tells whether they are the same, in either order: the law returns true for every input, and each argument reads afterwards as before.
  Conditions: those of the given card alone (the three tables of functions are as the program's text lays them; the card ties them).
-/
import Derived.Test.YteoncjaiigfpaaaGreatDoorRunSame2
import Derived.Test.YteoncjaiigfpaaaGreatDoorRunSame3
import Derived.Test.YteoncjaiigfpaaaGreatDoorRunSame4
import Derived.Test.YteoncjaiigfpaaaGreatDoorRunSame5
import Derived.Test.YteoncjaiigfpaaaGreatDoorRunSame6
import Derived.Test.YteoncjaiigfpaaaGreatDoorRunSame7
import Derived.Test.YteoncjaiigfpaaaGreatDoorRunSame8
import Derived.Test.YteoncjaiigfpaaaGreatDoorRunSame9
import Derived.Test.YteoncjaiigfpaaaGreatDoorRunSame10
set_option linter.all false
namespace Go.Proofs.YteoncjaiigfpaaaGreatDoor
open Go.ChangeShapes Go.WideShapes Go.ChangeAt Go.RowKit Ab
set_option maxRecDepth 100000

theorem and2 {a b : Bool} (h : a = true) (k : b = true) : (a && b) = true := by rw [h, k]; rfl
theorem rs_facts : joinedFacts Tryz.prog 4 Tryz.f4 Rows.runSameSpec Rows.runSameRow = true :=
  (and2 (and2 (and2 (and2 (and2 (and2 (and2 (and2 (and2 (and2 (and2 (and2 (and2 (and2 (and2 (and2 (and2 (and2 (and2 (and2 (and2 (and2 (and2 (and2 (and2 (and2 (and2 (and2 (and2 (and2 (and2 rs_j0 rs_j1) rs_j2) rs_j3) rs_j4) rs_j5) rs_j6) rs_j7) rs_j8) rs_j9) rs_j10) rs_j11) rs_j12) rs_j13) rs_j14) rs_j15) rs_j16) rs_j17) rs_j18) rs_j19) rs_j20) rs_j21) rs_j22) rs_j23) rs_j24) rs_j25) rs_j26) rs_j27) rs_j28) rs_j29) rs_j30) rs_j31)

theorem runSame_said : Rows.RunSameSaid :=
  OpenClaim.holds_of_wide 4 Tryz.f4 rfl rfl rfl rfl rfl rfl rfl ⟨rfl, rfl, rfl, rfl, rfl⟩ rfl rfl rfl rfl rfl rs_named Tryz.func4 rs_facts rs_inst rs_wrap
    (fun os started H enc _ => runSame_lifted os started H enc)

/-- No parameter wants a stand-in; the program's own looks: what the card asks. -/
theorem runSame_plain (f : FuncId) (fn : Func) (hf : Tryz.pinned.checked.prog.funcNamed "underwood/underwoodlaw31.RunSame" = some f) (hfn : Tryz.pinned.checked.prog.funcs[f]? = some fn) :
    true = Tryz.pinned.checked.prog.looks [] ∧ ∀ (j : Nat) t, fn.params[j]? = some t → Tryz.pinned.checked.prog.wantsStandIn t = false := by
  obtain rfl : f = 4 := Option.some.inj (rs_named.symm.trans hf) |>.symm
  obtain rfl : fn = Tryz.f4 := (Option.some.inj (Tryz.func4.symm.trans hfn)).symm
  refine ⟨rs_looks, fun j t ht => ?_⟩
  rw [Tryz.params4] at ht
  have hm : t ∈ [62, 62] := by simpa using Array.mem_of_getElem? ht
  exact (show Tryz.prog.wantsStandIn t = false by simpa using List.all_eq_true.1 rs_stand t hm)

/-- ████ THE CARD ████ -/
theorem runSame_card : Rows.RunSameCardSaid :=
  Claim7.holds_tied_plain_at .later [] _ _ _ _ runSame_said (fun _ h => by cases h) rs_wf (fun _ h => by cases h) runSame_row_tie rfl ⟨rfl, rfl⟩ rs_main rfl runSame_plain rs_goes
#print axioms runSame_card
end Go.Proofs.YteoncjaiigfpaaaGreatDoor
