/- The runs of the one that receives end well: kernel. Conditions: none. -/
import Derived.Test.YtdgjcjhicbgfaaaGreatRa
set_option linter.unusedVariables false
set_option linter.unusedSimpArgs false
set_option maxRecDepth 100000
namespace Go.Proofs.YtdgjcjhicbgfaaaGreat
theorem takes10 : isS (stR 10 10) = true := by kernel_rfl
theorem takes0 : isS (stR 0 10) = true := by kernel_rfl
theorem takes1 : isS (stR 1 10) = true := by kernel_rfl
end Go.Proofs.YtdgjcjhicbgfaaaGreat
