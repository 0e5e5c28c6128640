/- The runs of the one that receives end well: kernel. Conditions: none. -/
import Derived.Test.YtdgjcjhicbgfaaaGreatRa
set_option linter.unusedVariables false
set_option linter.unusedSimpArgs false
set_option maxRecDepth 100000
namespace Go.Proofs.YtdgjcjhicbgfaaaGreat
theorem takes8 : isS (stR 8 10) = true := by kernel_rfl
theorem takes9 : isS (stR 9 10) = true := by kernel_rfl
end Go.Proofs.YtdgjcjhicbgfaaaGreat
