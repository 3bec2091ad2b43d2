import Derived.Test.YteoncjaiigfpaaaGreatDoorRunSame1
import Derived.LaidMore
import Derived.Stop.Joined
import Derived.SevenTiedAt
set_option linter.all false
namespace Go.Proofs.YteoncjaiigfpaaaGreatDoor
open Go.ChangeShapes Go.WideShapes Go.ChangeAt Go.RowKit Ab
set_option maxRecDepth 100000
theorem rs_j1 : (laidOutB Tryz.prog) = true := by kernel_rfl
theorem rs_j3 : (Tryz.f4.params.all (Tryz.prog.readableRec ·)) = true := by kernel_rfl
theorem rs_j5 : ((Rows.runSameRow.stops == [])) = true := by kernel_rfl
theorem rs_j7 : ((Rows.runSameRow.knobs == [])) = true := by kernel_rfl
theorem rs_j13 : ((Rows.runSameRow.maps == (Tryz.f4.params.toList ++ Rows.runSameSpec.plain.varTypes Tryz.prog).any (Tryz.prog.mapsRec ·))) = true := by kernel_rfl
theorem rs_j15 : ((Rows.runSameRow.mapsOut == Tryz.prog.mapsAmong Tryz.f4.resultTypes.toList)) = true := by kernel_rfl
theorem rs_j17 : ((Rows.runSameRow.wideKeys == (Tryz.f4.params.toList ++ Rows.runSameSpec.plain.varTypes Tryz.prog ++ Tryz.f4.resultTypes.toList).any (Tryz.prog.wideKeysFrom ·))) = true := by kernel_rfl
theorem rs_j19 : (Tryz.f4.resultTypes.all (fun t => Tryz.prog.readableRec t && decide (t < Tryz.prog.types.size))) = true := by kernel_rfl
theorem rs_j21 : ((Rows.runSameRow.loopsOut == Tryz.f4.resultTypes.toList.any (Tryz.prog.loopsFrom ·))) = true := by kernel_rfl
theorem rs_j23 : (Rows.runSameRow.shortTexts.isNone) = true := by kernel_rfl
theorem rs_j25 : (Tryz.prog.mayEnter) = true := by kernel_rfl
theorem rs_j27 : ((Tryz.prog.make == some Rows.runSameRow.make)) = true := by kernel_rfl
theorem rs_j29 : ((Rows.runSameRow.pinned == Rows.runSameRow.pinnedBy)) = true := by kernel_rfl
theorem rs_j31 : (Rows.runSameRow.veiledFits Tryz.prog Tryz.f4.params.toList (Tryz.f4.params.toList ++ Rows.runSameSpec.plain.varTypes Tryz.prog ++ Tryz.f4.resultTypes.toList)) = true := by kernel_rfl
end Go.Proofs.YteoncjaiigfpaaaGreatDoor
