/- Arguments of the types Rule and Op, opened. Conditions: that they read. -/
import Derived.Test.YtkckfghmdkeobaaOpen
import Derived.Test.YtkckfghmdkeobaaOps
namespace Go.Proofs.Ytkckfghmdkeobaa
theorem dec_op {W : World} {cs : List Value} (h : Reads Try.prog W 35 cs) : ∃ y, isOp y cs := by
  have hl := (reads_struct Try.underlying35 h).1
  rw [show Try.prog.cellsOf 35 = 2 from by kernel_rfl] at hl
  obtain ⟨a, h0, w0⟩ := field_int Try.underlying35 h 0 _ rfl (by kernel_rfl) Try.underlying3
  obtain ⟨b, h1, w1⟩ := field_int Try.underlying35 h 1 _ rfl (by kernel_rfl) Try.underlying3
  exact ⟨(a, b), list2 hl (one_cell h0) (one_cell h1), w0, w1⟩
theorem rule_of {W : World} {cs : Array Value} (_ : cs.size = Try.prog.cellsOf 23) (h : Reads Try.prog W 23 (Value.agg cs).cells.toList) : ∃ r : Rul, cs = #[.int .i64 r.smax, .int .i64 r.bag, .int .i64 r.jit, .bool r.fr] ∧ ((-9223372036854775808 ≤ r.smax ∧ r.smax ≤ 9223372036854775807) ∧ (-9223372036854775808 ≤ r.bag ∧ r.bag ≤ 9223372036854775807) ∧ (-9223372036854775808 ≤ r.jit ∧ r.jit ≤ 9223372036854775807)) := by
  have hl := (reads_struct Try.underlying23 h).1
  rw [show Try.prog.cellsOf 23 = 4 from by kernel_rfl] at hl
  obtain ⟨a, h0, w0⟩ := field_int Try.underlying23 h 0 _ rfl (by kernel_rfl) Try.underlying3
  obtain ⟨b, h1, w1⟩ := field_int Try.underlying23 h 1 _ rfl (by kernel_rfl) Try.underlying3
  obtain ⟨c, h2, w2⟩ := field_int Try.underlying23 h 2 _ rfl (by kernel_rfl) Try.underlying3
  obtain ⟨d, h3⟩ := field_bool Try.underlying23 h 3 _ rfl (by kernel_rfl) Try.underlying4
  have e := list4 hl (one_cell h0) (one_cell h1) (one_cell h2) (one_cell h3)
  refine ⟨⟨a, b, c, d⟩, ?_, w0, w1, w2⟩
  exact Array.ext' e
end Go.Proofs.Ytkckfghmdkeobaa
