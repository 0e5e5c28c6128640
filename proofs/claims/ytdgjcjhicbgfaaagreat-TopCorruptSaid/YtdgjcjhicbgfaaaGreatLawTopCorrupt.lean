/- The statement TopCorrupt, out of its walk: the law answers true at every input, and leaves what came in as it was. Conditions: those of the given row, none else. -/
import Derived.Test.YtdgjcjhicbgfaaaGreatRows
import Derived.Test.YtdgjcjhicbgfaaaGreatLiftTopCorrupt
import Derived.Test.YtdgjcjhicbgfaaaGreatFactsTopCorrupt
import Derived.ProofKit
import Derived.SizedLaws
set_option linter.unusedVariables false
set_option linter.unusedSimpArgs false
namespace Go.Proofs.YtdgjcjhicbgfaaaGreat.topCorrupt
open Go.ChangeShapes Go.WideShapes Go.ChangeAt Go.RowKit
open Go.ChangeMaps (open_string shut_string)
set_option linter.unusedVariables false
theorem over : Rows.topCorruptRow.holds Tryz.pinned (OpenSpec.ofChange Rows.topCorruptSpec) :=
  OpenClaim.holds_of_wide 3 Tryz.f3 rfl rfl rfl rfl rfl rfl rfl ⟨rfl, rfl, rfl, rfl, rfl⟩ rfl rfl rfl rfl rfl named3 Tryz.func3 facts noInstance noWrapper
    (fun os started H enc _ => lifted os started H enc)
theorem proved : Rows.TopCorruptSaid := over
#print axioms proved
end Go.Proofs.YtdgjcjhicbgfaaaGreat.topCorrupt
namespace Go.Proofs.YtdgjcjhicbgfaaaGreat
/-- The row, under a short name, for the claim. -/
theorem topCorrupt_holds : Rows.TopCorruptSaid := topCorrupt.proved
end Go.Proofs.YtdgjcjhicbgfaaaGreat
