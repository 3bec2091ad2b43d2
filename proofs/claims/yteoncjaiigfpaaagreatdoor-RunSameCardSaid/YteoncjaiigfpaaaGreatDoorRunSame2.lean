import Derived.Test.YteoncjaiigfpaaaGreatDoorRunSame1
import Derived.LaidMore
import Derived.Stop.Joined
import Derived.SevenTiedAt
set_option linter.all false
namespace Go.Proofs.YteoncjaiigfpaaaGreatDoor
open Go.ChangeShapes Go.WideShapes Go.ChangeAt Go.RowKit Ab
set_option maxRecDepth 100000
theorem rs_named : Tryz.pinned.checked.prog.funcNamed Rows.runSameRow.func = some 4 := by kernel_rfl
theorem rs_func : Tryz.pinned.checked.prog.funcs[4]? = some Tryz.f4 := Tryz.func4
theorem rs_inst : Tryz.f4.isInstance Tryz.pinned.checked.prog Rows.runSameRow.origin Rows.runSameRow.targs := of_decide_eq_true (by kernel_rfl)
theorem rs_wrap : Tryz.f4.isWrapper Tryz.pinned.checked.prog Rows.runSameRow.wrapper Rows.runSameRow.mainSum := by unfold Func.isWrapper; first | (rw [if_pos (by decide +kernel)]; kernel_rfl) | (rw [if_neg (by decide +kernel)]; exact ⟨rfl, rfl⟩)
end Go.Proofs.YteoncjaiigfpaaaGreatDoor
