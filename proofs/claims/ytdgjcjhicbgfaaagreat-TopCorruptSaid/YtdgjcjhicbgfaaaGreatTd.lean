/- The runs of the one that sends end well: kernel. Conditions: none. -/
import Derived.Test.YtdgjcjhicbgfaaaGreatTa
set_option linter.unusedVariables false
set_option linter.unusedSimpArgs false
set_option maxRecDepth 100000
namespace Go.Proofs.YtdgjcjhicbgfaaaGreat
theorem pass7 : isS (passS 7) = true := by kernel_rfl
theorem pass8 : isS (passS 8) = true := by kernel_rfl
end Go.Proofs.YtdgjcjhicbgfaaaGreat
