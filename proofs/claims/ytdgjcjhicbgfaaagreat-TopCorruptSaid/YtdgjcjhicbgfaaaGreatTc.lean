/- The runs of the one that sends end well: kernel. Conditions: none. -/
import Derived.Test.YtdgjcjhicbgfaaaGreatTa
set_option linter.unusedVariables false
set_option linter.unusedSimpArgs false
set_option maxRecDepth 100000
namespace Go.Proofs.YtdgjcjhicbgfaaaGreat
theorem pass4 : isS (passS 4) = true := by kernel_rfl
theorem pass5 : isS (passS 5) = true := by kernel_rfl
theorem pass6 : isS (passS 6) = true := by kernel_rfl
end Go.Proofs.YtdgjcjhicbgfaaaGreat
