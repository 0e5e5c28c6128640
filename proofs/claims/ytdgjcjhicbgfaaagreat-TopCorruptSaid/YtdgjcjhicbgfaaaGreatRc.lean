/- The runs of the one that receives end well: kernel. Conditions: none. -/
import Derived.Test.YtdgjcjhicbgfaaaGreatRa
set_option linter.unusedVariables false
set_option linter.unusedSimpArgs false
set_option maxRecDepth 100000
namespace Go.Proofs.YtdgjcjhicbgfaaaGreat
theorem takes2 : isS (stR 2 10) = true := by kernel_rfl
theorem takes3 : isS (stR 3 10) = true := by kernel_rfl
theorem takes4 : isS (stR 4 10) = true := by kernel_rfl
end Go.Proofs.YtdgjcjhicbgfaaaGreat
