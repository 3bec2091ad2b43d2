import Derived.Test.YteoncjaiigfpaaaGreatDoorRunSame1
import Derived.LaidMore
import Derived.Stop.Joined
import Derived.SevenTiedAt
set_option linter.all false
namespace Go.Proofs.YteoncjaiigfpaaaGreatDoor
open Go.ChangeShapes Go.WideShapes Go.ChangeAt Go.RowKit Ab
set_option maxRecDepth 100000
theorem rs_j12 : ((Rows.runSameRow.named == Tryz.prog.varsNamed  4)) = true := by kernel_rfl
end Go.Proofs.YteoncjaiigfpaaaGreatDoor
