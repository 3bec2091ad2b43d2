import Derived.Test.YteoncjaiigfpaaaGreatDoorRunSame1
import Derived.LaidMore
import Derived.Stop.Joined
import Derived.SevenTiedAt
set_option linter.all false
namespace Go.Proofs.YteoncjaiigfpaaaGreatDoor
open Go.ChangeShapes Go.WideShapes Go.ChangeAt Go.RowKit Ab
set_option maxRecDepth 100000
theorem rs_main : Tryz.pinned.checked.prog.mainIs = some (true, "026f2bfd7bab6412b7abb52ee84d054f8a1168259ae920dbf9b8af87538843f1".toList) := by kernel_rfl
theorem rs_looks : true = Tryz.prog.looks [] := by kernel_rfl
theorem rs_stand : ([62, 62].all fun u => !Tryz.prog.wantsStandIn u) = true := by kernel_rfl
theorem rs_goes : false = Rows.runSameRow.goesBy Tryz.pinned.checked.prog := by kernel_rfl
theorem rs_wf : Rows.runSameRow.wfByText (OpenSpec.ofChange Rows.runSameSpec) = true := by kernel_rfl
end Go.Proofs.YteoncjaiigfpaaaGreatDoor
