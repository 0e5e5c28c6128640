/- An argument's element of type Op, opened. Conditions: that it reads. -/
import Derived.Test.YtoofekeenbllhaaOpen
import Derived.Test.YtoofekeenbllhaaWalkBagPlays
namespace Go.Proofs.Ytoofekeenbllhaa
theorem dec_op {W : World} {cs : List Value} (h : Reads Try.prog W 42 cs) : ∃ y, isOp y cs := by
  have hl := (reads_struct Try.underlying42 h).1
  rw [show Try.prog.cellsOf 42 = 2 from by kernel_rfl] at hl
  obtain ⟨a, h0, w0⟩ := field_int Try.underlying42 h 0 _ rfl (by kernel_rfl) Try.underlying3
  obtain ⟨b, h1, w1⟩ := field_int Try.underlying42 h 1 _ rfl (by kernel_rfl) Try.underlying3
  exact ⟨(a, b), list2 hl (one_cell h0) (one_cell h1), w0, w1⟩
end Go.Proofs.Ytoofekeenbllhaa
