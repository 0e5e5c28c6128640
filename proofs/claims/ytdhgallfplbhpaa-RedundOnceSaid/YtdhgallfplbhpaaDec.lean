/- Arguments of a struct type, opened. Conditions: that they read. -/
import Derived.Test.YtdhgallfplbhpaaOpen
namespace Go.Proofs.Ytdhgallfplbhpaa
open Go.RowKit
set_option linter.unusedVariables false
structure OpV where
  reset : Bool
  now : Int
  net : Int
  seq : Int
instance : Inhabited OpV := ⟨⟨false, 0, 0, 0⟩⟩
def isOp (o : OpV) (cs : List Value) : Prop := cs = [.bool o.reset, .int .i64 o.now, .int .i64 o.net, .int .i64 o.seq]
theorem dec_op {W : World} {cs : List Value} (h : Reads Try.prog W 47 cs) : ∃ y, isOp y cs := by
  have hl := (reads_struct Try.underlying47 h).1
  rw [show Try.prog.cellsOf 47 = 4 from by kernel_rfl] at hl
  obtain ⟨a, h0⟩ := field_bool Try.underlying47 h 0 _ rfl (by kernel_rfl) Try.underlying4
  obtain ⟨b, h1, _⟩ := field_int Try.underlying47 h 1 _ rfl (by kernel_rfl) Try.underlying3
  obtain ⟨c, h2, _⟩ := field_int Try.underlying47 h 2 _ rfl (by kernel_rfl) Try.underlying3
  obtain ⟨d, h3, _⟩ := field_int Try.underlying47 h 3 _ rfl (by kernel_rfl) Try.underlying3
  exact ⟨⟨a, b, c, d⟩, list4 hl (one_cell h0) (one_cell h1) (one_cell h2) (one_cell h3)⟩
theorem Sl.ops {w : World} {a : Option Addr} {len : Nat} {L : Nat → OpV} (h : Sl w a len 4 isOp L) : ∀ k, k < len → ∃ b off, a = some ⟨b, off, none⟩ ∧ w.cell? ⟨b, off + k * 4, none⟩ = some (.bool (L k).reset) ∧ w.cell? ⟨b, off + k * 4 + 1, none⟩ = some (.int .i64 (L k).now) ∧ w.cell? ⟨b, off + k * 4 + 2, none⟩ = some (.int .i64 (L k).net) ∧ w.cell? ⟨b, off + k * 4 + 3, none⟩ = some (.int .i64 (L k).seq) := by
  intro k hk
  obtain ⟨b, off, ha, hx⟩ := h.2 (by omega)
  obtain ⟨cs, hl, rfl, hc⟩ := hx k hk
  have c0 := hc 0 (by omega)
  have c1 := hc 1 (by omega)
  have c2 := hc 2 (by omega)
  have c3 := hc 3 (by omega)
  simp at c0 c1 c2 c3
  exact ⟨b, off, ha, c0, by rw [Nat.add_assoc]; exact c1, by rw [Nat.add_assoc]; exact c2, by rw [Nat.add_assoc]; exact c3⟩
end Go.Proofs.Ytdhgallfplbhpaa
