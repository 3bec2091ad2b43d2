import Derived.Test.YteoncjaiigfpaaaGreatDoorRunSame1
import Derived.LaidMore
import Derived.Stop.Joined
import Derived.SevenTiedAt
set_option linter.all false
namespace Go.Proofs.YteoncjaiigfpaaaGreatDoor
open Go.ChangeShapes Go.WideShapes Go.ChangeAt Go.RowKit Ab
set_option maxRecDepth 100000
theorem rs_j0 : (Rows.runSameRow.wf (OpenSpec.ofChange Rows.runSameSpec)) = true := by kernel_rfl
theorem rs_j2 : (mapsRowed Tryz.prog) = true := by kernel_rfl
theorem rs_j4 : (namedTie Tryz.prog Rows.runSameRow.named Rows.runSameSpec.vars) = true := by kernel_rfl
theorem rs_j6 : ((Tryz.prog.stops == [])) = true := by kernel_rfl
theorem rs_j8 : ((Tryz.prog.stopKnobs == [])) = true := by kernel_rfl
theorem rs_j14 : ((Rows.runSameRow.ifaces == (Tryz.f4.params.toList ++ Rows.runSameSpec.plain.varTypes Tryz.prog).any (Tryz.prog.ifacesRec ·))) = true := by kernel_rfl
theorem rs_j16 : ((Rows.runSameRow.loops == (Tryz.f4.params.toList ++ Rows.runSameSpec.plain.varTypes Tryz.prog).any (Tryz.prog.loopsFrom ·))) = true := by kernel_rfl
theorem rs_j18 : (Rows.runSameSpec.vars.all (Tryz.prog.varReadable ·)) = true := by kernel_rfl
theorem rs_j20 : ((Rows.runSameRow.ifacesOut == Tryz.f4.resultTypes.toList.any (Tryz.prog.ifacesRec ·))) = true := by kernel_rfl
theorem rs_j22 : ((Rows.runSameRow.plainKeys == Tryz.prog.plainKeys)) = true := by kernel_rfl
theorem rs_j24 : (Tryz.prog.stopsHeard) = true := by kernel_rfl
theorem rs_j26 : ((Rows.runSameRow.lifted == Tryz.prog.liftsFinal)) = true := by kernel_rfl
theorem rs_j28 : ((Rows.runSameRow.kinds == (if Rows.runSameRow.domain.isEmpty then [] else Tryz.f4.params.toList.map fun t => match Tryz.prog.underlying t with | some (.int k) => some k | _ => none))) = true := by kernel_rfl
theorem rs_j30 : ((Rows.runSameRow.veiled == (Tryz.f4.params.toList ++ Rows.runSameSpec.plain.varTypes Tryz.prog ++ Tryz.f4.resultTypes.toList).any (Tryz.prog.veiledRec ·))) = true := by kernel_rfl
end Go.Proofs.YteoncjaiigfpaaaGreatDoor
