/- The self-check answers yes. Conditions: those of the known codecs. -/
import Derived.Test.YtdgjcjhicbgfaaaGreatMf
set_option linter.unusedVariables false
set_option linter.unusedSimpArgs false
set_option maxRecDepth 100000
namespace Go.Proofs.YtdgjcjhicbgfaaaGreat
open Go.RowKit
def isTrue : Option (AV × St) → Bool
  | some (.bool true, _) => true
  | _ => false
theorem awakeA : isTrue (callA C1 3000 7 [] ⟨.nil, 0⟩) = true := by kernel_rfl
end Go.Proofs.YtdgjcjhicbgfaaaGreat
