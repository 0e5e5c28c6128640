/- The runs of the one that sends end well: kernel. Conditions: none. -/
import Derived.Test.YtdgjcjhicbgfaaaGreatTa
set_option linter.unusedVariables false
set_option linter.unusedSimpArgs false
set_option maxRecDepth 100000
namespace Go.Proofs.YtdgjcjhicbgfaaaGreat
theorem pass0 : isS (passS 0) = true := by kernel_rfl
theorem pass1 : isS (passS 1) = true := by kernel_rfl
theorem pass2 : isS (passS 2) = true := by kernel_rfl
theorem pass3 : isS (passS 3) = true := by kernel_rfl
end Go.Proofs.YtdgjcjhicbgfaaaGreat
