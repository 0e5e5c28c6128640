/- An argument of the type Op, opened. Conditions: that it reads. -/
import Derived.Test.YtjhpeelgehchiaaFew
namespace Go.Proofs.Ytjhpeelgehchiaa
open Go.RowKit

structure OpV where
  ask : Int
  i : Int
  a : Option Addr
  len : Nat
  cap : Nat
  L : Nat → ByteArray
instance : Inhabited OpV := ⟨⟨0, 0, none, 0, 0, fun _ => ⟨#[]⟩⟩⟩
/-- Such a call lies in three cells; its texts read. -/
def isOp (w : World) (o : OpV) (cs : List Value) : Prop :=
  cs = [.int .i64 o.ask, .int .i64 o.i, .slice o.a o.len o.cap] ∧ o.len ≤ maxLen ∧ Txts w o.a o.len o.L ∧ -9223372036854775808 ≤ o.ask ∧ o.ask ≤ 9223372036854775807 ∧ -9223372036854775808 ≤ o.i ∧ o.i ≤ 9223372036854775807
theorem dec_op {W : World} {cs : List Value} (h : Reads Try.prog W 38 cs) : ∃ y, isOp W y cs := by
  have hl := (reads_struct Try.underlying38 h).1
  rw [show Try.prog.cellsOf 38 = 3 from by kernel_rfl] at hl
  obtain ⟨a, h0, w0, w0'⟩ := field_int Try.underlying38 h 0 _ rfl (by kernel_rfl) Try.underlying3
  obtain ⟨b, h1, w1, w1'⟩ := field_int Try.underlying38 h 1 _ rfl (by kernel_rfl) Try.underlying3
  have h2 := (reads_struct Try.underlying38 h).2 2 _ rfl
  have h2 : Reads Try.prog W 35 ((cs.drop 2).take (Try.prog.cellsOf 35)) := h2
  rw [show Try.prog.cellsOf 35 = 1 from by kernel_rfl] at h2
  obtain ⟨sa, len, cap, L, h3, hs⟩ := sl_of (sz := 1) (Q := isStr) Try.underlying35 (by kernel_rfl) (by decide) (fun _ hc => dec_str Try.underlying9 hc) h2
  exact ⟨⟨a, b, sa, len, cap, L⟩, list3 hl (one_cell h0) (one_cell h1) (one_cell h3), hs.1, fun k hk => by
    obtain ⟨b, off, ha, hc, _⟩ := hs.strs k hk
    exact ⟨b, off, ha, hc⟩, w0, w0', w1, w1'⟩
end Go.Proofs.Ytjhpeelgehchiaa
