/- Frames that came in, and what is told of an account by them. Conditions: none. -/
import Derived.Test.YtkckfghmdkeobaaAwake
namespace Go.Proofs.Ytkckfghmdkeobaa
open Go.RowKit
set_option linter.unusedVariables false
def isOp (y : Int × Int) (cs : List Value) : Prop := cs = [.int .i64 y.1, .int .i64 y.2] ∧ (-9223372036854775808 ≤ y.1 ∧ y.1 ≤ 9223372036854775807) ∧ (-9223372036854775808 ≤ y.2 ∧ y.2 ≤ 9223372036854775807)
theorem Sl.ops {w : World} {a : Option Addr} {len : Nat} {L : Nat → Int × Int} (h : Sl w a len 2 isOp L) : ∀ k, k < len → ∃ b off, a = some ⟨b, off, none⟩ ∧ w.cell? ⟨b, off + k * 2, none⟩ = some (.int .i64 (L k).1) ∧ w.cell? ⟨b, off + k * 2 + 1, none⟩ = some (.int .i64 (L k).2) ∧ (-9223372036854775808 ≤ (L k).1 ∧ (L k).1 ≤ 9223372036854775807) ∧ (-9223372036854775808 ≤ (L k).2 ∧ (L k).2 ≤ 9223372036854775807) := by
  intro k hk
  obtain ⟨b, off, ha, hx⟩ := h.2 (by omega)
  obtain ⟨cs, hl, ⟨rfl, h1, h2⟩, hc⟩ := hx k hk
  have c0 := hc 0 (by omega)
  have c1 := hc 1 (by omega)
  simp at c0 c1
  exact ⟨b, off, ha, c0, by rw [Nat.add_assoc]; exact c1, h1, h2⟩
theorem At.drew {w wr : World} {g : Nat} {s : Acc} {n : Int} (h : At w g wr s n) : At w g wr.drew s n := ⟨h.blk, h.ok, h.passed, h.dropped, h.below.drew⟩
/-- Is a frame counted? -/
def counts (e : Int) : Bool := e != 1 && e != 24
theorem Acc.err_cases (s : Acc) (now n : Int) : s.err now n = 1 ∨ s.err now n = 24 ∨ s.err now n = 11 ∨ s.err now n = 26 ∨ s.err now n = 0 := by
  unfold Acc.err
  repeat' split
  all_goals omega
theorem Acc.take_sum (s : Acc) (now n : Int) : (s.take now n).passed + (s.take now n).dropped = s.passed + s.dropped + (if counts (s.err now n) then 1 else 0) := by
  unfold Acc.take Acc.err
  split
  · simp [counts]
  split
  · simp [counts]
  split
  · simp [counts, Acc.to]; omega
  split
  · simp [counts, Acc.to]; omega
  · simp [counts, Acc.to]; omega
theorem Acc.err_zero {s : Acc} {now n : Int} (h : s.err now n = 0) : 0 ≤ now ∧ now ≤ 1125899906842624 ∧ 0 ≤ n ∧ s.now ≤ now ∧ n ≤ s.r.smax ∧ s.costOf n ≤ s.creditOf now := by
  unfold Acc.err at h
  split at h
  · omega
  rename_i hb
  unfold Acc.bad at hb
  split at h
  · omega
  split at h
  · omega
  split at h
  · omega
  omega
theorem Acc.take_zero {s : Acc} {now n : Int} (h : s.err now n = 0) : s.take now n = { s.to now with left := s.creditOf now - s.costOf n, passed := s.passed + 1 } := by
  have f := Acc.err_zero h
  unfold Acc.take
  rw [if_neg (by unfold Acc.bad; omega), if_neg (by omega), if_neg (by omega), if_neg (by omega)]
theorem Acc.take_now {s : Acc} {now n : Int} (h : counts (s.err now n) = true) : (s.take now n).now = now ∧ 0 ≤ now ∧ s.now ≤ now := by
  unfold Acc.take
  unfold Acc.err at h
  split
  · rename_i hb
    rw [if_pos hb] at h
    simp [counts] at h
  rename_i hb
  rw [if_neg hb] at h
  unfold Acc.bad at hb
  split
  · rename_i ht
    rw [if_pos ht] at h
    simp [counts] at h
  split
  · exact ⟨rfl, by omega, by omega⟩
  split
  · exact ⟨rfl, by omega, by omega⟩
  · exact ⟨rfl, by omega, by omega⟩
theorem Acc.take_same {s : Acc} {now n : Int} (h : counts (s.err now n) = false) : s.take now n = s := by
  unfold Acc.take
  unfold Acc.err at h
  split
  · rfl
  rename_i hb
  rw [if_neg hb] at h
  split
  · rfl
  rename_i ht
  rw [if_neg ht] at h
  split at h
  · simp [counts] at h
  split at h <;> simp [counts] at h
theorem credit_zero (g : Nat) (s : Acc) (w : World) (h : Blk w g 55 s.cells) (ok : s.ok) : Calls Try.prog 15 #[.pointer (some ⟨g, 0, none⟩), .int .i64 0] w fun e w' => e = .returned (.int .i64 s.left) ∧ w = w' :=
  (credit_old g s 0 w h ok.now0.1).mono fun _ _ ⟨he, hw⟩ => ⟨by rw [he]; unfold Acc.creditOf; rw [if_pos ok.now0.1], hw⟩
end Go.Proofs.Ytkckfghmdkeobaa
