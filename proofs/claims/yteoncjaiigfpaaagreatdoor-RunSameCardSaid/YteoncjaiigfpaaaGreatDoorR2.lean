import Derived.Test.YteoncjaiigfpaaaGreatDoorL0
set_option linter.all false
namespace Go.Proofs
set_option maxRecDepth 100000
theorem r_k9x1775 : k9x1775.runs (Ab.aCallK Tryz.prog (Ab.sameVal 8) (Ab.knownF []) 3000) = true := by kernel_rfl
end Go.Proofs
