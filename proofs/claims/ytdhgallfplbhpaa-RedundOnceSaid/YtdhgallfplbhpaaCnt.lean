/- What Take counts. Conditions: plain lemmas. -/
import Derived.Test.YtdhgallfplbhpaaAwk
namespace Go.Proofs.Ytdhgallfplbhpaa
open Go.RowKit
set_option linter.unusedVariables false
def FS.sum (s : FS) : Int := s.thr + s.twi + s.old
theorem put_parts (s : FS) (now net seq : Int) : (s.put now net seq).thr = s.thr + 1 ∧ (s.put now net seq).twi = s.twi ∧ (s.put now net seq).old = s.old ∧ (s.put now net seq).l = (s.l ++ [Fr.mk seq now (net.toNat + 1)]).drop (cutAt s.l.length) := by
  refine ⟨?_, ?_, ?_, ?_⟩ <;> simp only [FS.put]
theorem judge_count (s : FS) (now net seq : Int) : (s.judge now net seq).1 ≠ 1 ∧ (s.judge now net seq).1 ≠ 24 ∧ (s.judge now net seq).2.sum = s.sum + 1 ∧ (((s.l.length : Int) ≤ s.thr) → ((s.judge now net seq).2.l.length : Int) ≤ (s.judge now net seq).2.thr) := by
  unfold FS.judge
  split
  · rename_i l' hl'
    obtain ⟨a, _⟩ := twiced_spec hl'
    refine ⟨by simp, by simp, by show s.thr + (s.twi + 1) + s.old = s.thr + s.twi + s.old + 1; omega, fun h => ?_⟩
    show (l'.length : Int) ≤ s.thr
    rw [a]
    exact h
  · split
    · exact ⟨by simp, by simp, by show s.thr + s.twi + (s.old + 1) = s.thr + s.twi + s.old + 1; omega, fun h => h⟩
    · split
      · exact ⟨by simp, by simp, by show s.thr + s.twi + (s.old + 1) = s.thr + s.twi + s.old + 1; omega, fun h => h⟩
      · obtain ⟨e1, e2, e3, e4⟩ := put_parts s now net seq
        refine ⟨by simp, by simp, ?_, fun h => ?_⟩
        · unfold FS.sum
          show (s.put now net seq).thr + (s.put now net seq).twi + (s.put now net seq).old = _
          rw [e1, e2, e3]
          omega
        · show ((s.put now net seq).l.length : Int) ≤ (s.put now net seq).thr
          rw [e1, e4, List.length_drop, List.length_append, List.length_singleton]
          omega
theorem forget_sum (s : FS) (now : Int) : (s.forget now).sum = s.sum := rfl
theorem take_count (s : FS) (now net seq : Int) (hl : (s.l.length : Int) ≤ s.thr) :
    (((s.take now net seq).1 = 1 ∨ (s.take now net seq).1 = 24) ∧ (s.take now net seq).2.sum = s.sum ∨ ((s.take now net seq).1 ≠ 1 ∧ (s.take now net seq).1 ≠ 24) ∧ (s.take now net seq).2.sum = s.sum + 1) ∧ ((s.take now net seq).2.l.length : Int) ≤ (s.take now net seq).2.thr := by
  unfold FS.take
  split
  · obtain ⟨h1, h2, h3, h4⟩ := judge_count (s.forget now) now net seq
    refine ⟨.inr ⟨⟨h1, h2⟩, by rw [h3, forget_sum]⟩, h4 ?_⟩
    have : (s.forget now).l.length ≤ s.l.length := dropWhile_len
    show ((s.forget now).l.length : Int) ≤ s.thr
    omega
  · rename_i h
    refine ⟨.inl ⟨?_, rfl⟩, hl⟩
    unfold FS.timely at h ⊢
    split at h
    · rename_i h1
      rw [if_pos h1]
      exact .inl rfl
    · rename_i h1
      rw [if_neg h1]
      split at h
      · rename_i h2
        rw [if_pos h2]
        exact .inr rfl
      · exact absurd rfl h
theorem sum_nonneg {s : FS} {n : Nat} (h : s.upto n) : 0 ≤ s.sum ∧ s.sum ≤ 3 * n := by
  have := h.t; have := h.w; have := h.o
  unfold FS.sum
  omega
end Go.Proofs.Ytdhgallfplbhpaa
