/- The closed facts of TopCorrupt's row, each by itself. Conditions: none. -/
import Derived.Test.YtdgjcjhicbgfaaaGreatRows
import Derived.ProofKit
import Derived.SizedLaws
import Derived.WalkKit
set_option linter.unusedVariables false
set_option linter.unusedSimpArgs false
namespace Go.Proofs.YtdgjcjhicbgfaaaGreat.topCorrupt
open Go.ChangeShapes Go.WideShapes Go.ChangeAt Go.RowKit
theorem named3 : Tryz.pinned.checked.prog.funcNamed Rows.topCorruptRow.func = some 3 := by kernel_rfl
theorem and_t {a b : Bool} (h : a = true) (k : b = true) : (a && b) = true := by rw [h, k]; rfl
set_option maxHeartbeats 4000000 in
theorem facts : joinedFacts Tryz.pinned.checked.prog 3 Tryz.f3 Rows.topCorruptSpec Rows.topCorruptRow = true := by
  unfold joinedFacts
  repeat' (with_reducible apply and_t)
  all_goals (as_aux_lemma => kernel_rfl)
theorem noInstance : Tryz.f3.isInstance Tryz.pinned.checked.prog Rows.topCorruptRow.origin Rows.topCorruptRow.targs := of_decide_eq_true (by kernel_rfl)
theorem noWrapper : Tryz.f3.isWrapper Tryz.pinned.checked.prog Rows.topCorruptRow.wrapper Rows.topCorruptRow.mainSum := by unfold Func.isWrapper; first | (rw [if_pos (by decide +kernel)]; kernel_rfl) | (rw [if_neg (by decide +kernel)]; exact ⟨rfl, rfl⟩)
end Go.Proofs.YtdgjcjhicbgfaaaGreat.topCorrupt
