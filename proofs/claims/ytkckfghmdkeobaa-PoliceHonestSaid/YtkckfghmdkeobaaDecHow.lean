/- An argument of the type [2][]int, opened. Conditions: that it reads. -/
import Derived.Test.YtkckfghmdkeobaaDec
import Derived.Test.YtkckfghmdkeobaaWalkPoliceHonest
namespace Go.Proofs.Ytkckfghmdkeobaa
theorem how_of {W : World} {cs : Array Value} (hz : cs.size = Try.prog.cellsOf 51) (h : Reads Try.prog W 51 (Value.agg cs).cells.toList) : ∃ x : How, cs = #[.slice x.a2 x.n2 x.cap2, .slice x.a3 x.n3 x.cap3] ∧ (IntsAt W x.a2 x.n2 x.C ∧ IntsAt W x.a3 x.n3 x.G) := by
  obtain ⟨_, hx⟩ := reads_array Try.underlying51 h
  rw [show Try.prog.cellsOf 51 = 2 from by kernel_rfl] at hz
  obtain ⟨c0, c1, rfl⟩ := Joins.array2 hz
  have h0 := hx 0 (by omega)
  have h1 := hx 1 (by omega)
  simp [show Try.prog.cellsOf 48 = 1 from by kernel_rfl, Value.cells] at h0 h1
  obtain ⟨a, l, c, L, e0, s0⟩ := sl_of (sz := 1) (Q := isInt) Try.underlying48 (by kernel_rfl) (by decide) (fun _ hc => dec_int Try.underlying3 hc) h0
  obtain ⟨a', l', c', L', e1, s1⟩ := sl_of (sz := 1) (Q := isInt) Try.underlying48 (by kernel_rfl) (by decide) (fun _ hc => dec_int Try.underlying3 hc) h1
  simp at e0 e1
  subst e0 e1
  exact ⟨⟨a, l, c, L, a', l', c', L'⟩, rfl, s0.at_, s1.at_⟩
end Go.Proofs.Ytkckfghmdkeobaa
