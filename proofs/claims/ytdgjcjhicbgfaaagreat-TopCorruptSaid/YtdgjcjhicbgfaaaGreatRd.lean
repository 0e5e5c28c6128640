/- The runs of the one that receives end well: kernel. Conditions: none. -/
import Derived.Test.YtdgjcjhicbgfaaaGreatRa
set_option linter.unusedVariables false
set_option linter.unusedSimpArgs false
set_option maxRecDepth 100000
namespace Go.Proofs.YtdgjcjhicbgfaaaGreat
theorem takes5 : isS (stR 5 10) = true := by kernel_rfl
theorem takes6 : isS (stR 6 10) = true := by kernel_rfl
theorem takes7 : isS (stR 7 10) = true := by kernel_rfl
end Go.Proofs.YtdgjcjhicbgfaaaGreat
