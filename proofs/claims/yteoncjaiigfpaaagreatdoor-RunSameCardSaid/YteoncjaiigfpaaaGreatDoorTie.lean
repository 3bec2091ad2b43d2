/-
  DERIVED. GIVEN WITH THE SEED: THE PROGRAM's TIES (one call each: nine closed facts by the kernel) AND EACH ROW's TIE, after the 31st guide's Derived/Test/Toyas{Tie, Card}.lean. No idea stands in it: it is a product of the set-up. Laid BY PROGRAM, IN A SANDBOX (cutbox-door.mjs). By AI agents, Wed Nov 11 2026. No macro, syntax, notation, axiom, sorry.
-/
import Derived.Test.YteoncjaiigfpaaaGreatDoorRows
import Derived.LaidByTextLater
import Derived.SevenTiedAt
import Derived.LaidSub
import Derived.LaidOnce
namespace Go.Proofs.YteoncjaiigfpaaaGreatDoor
open Go
set_option maxRecDepth 100000
theorem seatTie1 : Tryz.prog.laidByTextLater [("underwood/deque.kinds", Rows.laid_underwood_deque_kinds), ("underwood/obj.programs", Rows.laid_underwood_obj_programs), ("underwood/vm.all", Rows.laid_underwood_vm_all)] [.funcs, .funcs, .funcs] true :=
  Program.laidByTextLater_by_one 50 8 2 (by kernel_rfl) (by kernel_rfl) (by kernel_rfl) (by kernel_rfl) (by kernel_rfl) (by kernel_rfl) (fun _ _ => by kernel_rfl)
theorem noOwnUnsafe : Tryz.pinned.checked.prog.headLifts.contains "ownunsafe" = false := by kernel_rfl
theorem tie : Tryz.prog.laidByTextLater [("underwood/deque.kinds", Rows.laid_underwood_deque_kinds), ("underwood/obj.programs", Rows.laid_underwood_obj_programs), ("underwood/vm.all", Rows.laid_underwood_vm_all)] [.funcs, .funcs, .funcs] true :=
  Program.laidByTextLater.sub seatTie1 ["underwood/deque.kinds", "underwood/obj.programs", "underwood/vm.all"] (by kernel_rfl) (by kernel_rfl)
theorem runOnce_row_tie : Rows.runOnceRow.laidByTextAt .later Tryz.pinned [.funcs, .funcs, .funcs] true :=
  OpenClaim.laidByTextAt_later rfl rfl tie noOwnUnsafe
theorem runSame_row_tie : Rows.runSameRow.laidByTextAt .later Tryz.pinned [.funcs, .funcs, .funcs] true :=
  OpenClaim.laidByTextAt_later rfl rfl tie noOwnUnsafe
theorem runLaid_row_tie : Rows.runLaidRow.laidByTextAt .later Tryz.pinned [.funcs, .funcs, .funcs] true :=
  OpenClaim.laidByTextAt_later rfl rfl tie noOwnUnsafe
theorem boundRuns_row_tie : Rows.boundRunsRow.laidByTextAt .later Tryz.pinned [.funcs, .funcs, .funcs] true :=
  OpenClaim.laidByTextAt_later rfl rfl tie noOwnUnsafe
theorem runOnceUpto_row_tie : Rows.runOnceUptoRow.laidByTextAt .later Tryz.pinned [.funcs, .funcs, .funcs] true :=
  OpenClaim.laidByTextAt_later rfl rfl tie noOwnUnsafe
theorem runSameUpto_row_tie : Rows.runSameUptoRow.laidByTextAt .later Tryz.pinned [.funcs, .funcs, .funcs] true :=
  OpenClaim.laidByTextAt_later rfl rfl tie noOwnUnsafe
theorem runLaidUpto_row_tie : Rows.runLaidUptoRow.laidByTextAt .later Tryz.pinned [.funcs, .funcs, .funcs] true :=
  OpenClaim.laidByTextAt_later rfl rfl tie noOwnUnsafe
theorem boundRunsUpto_row_tie : Rows.boundRunsUptoRow.laidByTextAt .later Tryz.pinned [.funcs, .funcs, .funcs] true :=
  OpenClaim.laidByTextAt_later rfl rfl tie noOwnUnsafe
end Go.Proofs.YteoncjaiigfpaaaGreatDoor
