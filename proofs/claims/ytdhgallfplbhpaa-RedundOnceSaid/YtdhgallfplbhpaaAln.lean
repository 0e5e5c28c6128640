/- Frames of one network alone, one tick apart: each goes through. Conditions: a skew of 100 at most. -/
import Derived.Test.YtdhgallfplbhpaaCnt
namespace Go.Proofs.Ytdhgallfplbhpaa
open Go.RowKit
set_option linter.unusedVariables false
/-- The number of frame t. -/
def sq (t : Nat) : Int := if t = 0 then 0 else (((t - 1) % 255 : Nat) : Int) + 1
theorem sq_next (t : Nat) : next (sq t) = sq (t + 1) := by
  unfold next sq
  by_cases h : t = 0
  · subst h; rfl
  · rw [if_neg h, if_neg (by omega : ¬ t + 1 = 0)]
    split <;> omega
theorem sq_range (t : Nat) : 0 ≤ sq t ∧ sq t ≤ 255 := by
  unfold sq
  split <;> omega
theorem sq_pos {t : Nat} (h : t ≠ 0) : 1 ≤ sq t := by
  unfold sq
  rw [if_neg h]
  omega
theorem sq_ne {t i : Nat} (h1 : t < i) (h2 : i ≤ t + 100) : sq t ≠ sq i := by
  unfold sq
  rw [if_neg (by omega : ¬ i = 0)]
  split <;> omega
theorem sq_far {t i : Nat} (h1 : t < i) (h2 : i ≤ t + 100) : ¬ (1 ≤ step (sq i) (sq t) ∧ step (sq i) (sq t) ≤ 127) := by
  by_cases h0 : t = 0
  · subst h0
    have : step (sq i) (sq 0) = 0 := step_zero (.inr (by simp [sq]))
    omega
  · rw [step_lin (sq_range i) ⟨sq_pos h0, (sq_range t).2⟩]
    unfold sq
    rw [if_neg (by omega : ¬ i = 0), if_neg h0]
    split <;> omega
def frs : Nat → Nat → List Fr
  | lo, 0 => []
  | lo, n + 1 => ⟨sq lo, lo, 1⟩ :: frs (lo + 1) n
theorem frs_mem {f : Fr} : ∀ {n lo : Nat}, f ∈ frs lo n → ∃ t : Nat, lo ≤ t ∧ t < lo + n ∧ f = ⟨sq t, t, 1⟩
  | 0, lo, h => by simp [frs] at h
  | n + 1, lo, h => by
    rcases List.mem_cons.1 h with rfl | h
    · exact ⟨lo, by omega, by omega, rfl⟩
    · obtain ⟨t, h1, h2, h3⟩ := frs_mem h
      exact ⟨t, by omega, by omega, h3⟩
theorem mem_frs : ∀ {n lo t : Nat}, lo ≤ t → t < lo + n → (⟨sq t, t, 1⟩ : Fr) ∈ frs lo n
  | 0, lo, t, h1, h2 => by omega
  | n + 1, lo, t, h1, h2 => by
    by_cases h : t = lo
    · subst h; exact List.mem_cons_self
    · exact List.mem_cons_of_mem _ (mem_frs (by omega) (by omega))
theorem frs_len : ∀ (n lo : Nat), (frs lo n).length = n
  | 0, lo => rfl
  | n + 1, lo => by simp [frs, frs_len n]
theorem frs_app : ∀ (n lo : Nat), frs lo n ++ [⟨sq (lo + n), ((lo + n : Nat) : Int), 1⟩] = frs lo (n + 1)
  | 0, lo => rfl
  | n + 1, lo => by
    have := frs_app n (lo + 1)
    rw [show lo + 1 + n = lo + (n + 1) by omega] at this
    show _ :: (frs (lo + 1) n ++ _) = _ :: frs (lo + 1) (n + 1)
    rw [this]
theorem frs_drop (k now : Int) : ∀ (n lo : Nat), ∃ lo' n', lo ≤ lo' ∧ lo' + n' = lo + n ∧ (frs lo n).dropWhile (fun f => decide (k < now - f.tick)) = frs lo' n' ∧ (0 < n' → now - lo' ≤ k)
  | 0, lo => ⟨lo, 0, by omega, by omega, rfl, fun h => absurd h (by omega)⟩
  | n + 1, lo => by
    by_cases h : k < now - lo
    · obtain ⟨lo', n', h1, h2, h3, h4⟩ := frs_drop k now n (lo + 1)
      refine ⟨lo', n', by omega, by omega, ?_, h4⟩
      show (⟨sq lo, lo, 1⟩ :: frs (lo + 1) n).dropWhile _ = _
      rw [List.dropWhile_cons, if_pos (decide_eq_true h), h3]
    · refine ⟨lo, n + 1, by omega, by omega, ?_, fun _ => by omega⟩
      show (⟨sq lo, lo, 1⟩ :: frs (lo + 1) n).dropWhile _ = _
      rw [List.dropWhile_cons, if_neg (by simp; omega)]
      rfl
structure Aln (s : FS) (kk : Int) (ii lo nn : Nat) : Prop where
  l : s.l = frs lo nn
  i : lo + nn = ii
  k : s.skew = kk
  now : s.now ≤ ii
  thr : s.thr = ii
  twi : s.twi = 0
  n : (nn : Int) ≤ kk + 1
theorem aln_first {s : FS} {k : Int} {i lo n : Nat} (h : Aln s k i lo n) (hk : 0 ≤ k ∧ k ≤ 100) (hi : i ≤ 600) : (s.take i 0 (sq i)).1 = 0 ∧ ∃ lo' n', Aln (s.take i 0 (sq i)).2 k (i + 1) lo' n' ∧ (s.take i 0 (sq i)).2.now = i ∧ 0 < n' ∧ (i : Int) - lo' ≤ k := by
  have ht : s.timely i 0 (sq i) = 0 := by
    have := sq_range i
    have := h.now
    unfold FS.timely
    rw [if_neg (by omega), if_neg (by omega)]
  obtain ⟨lo', n', h1, h2, h3, h4⟩ := frs_drop k i n lo
  have hl : (s.forget i).l = frs lo' n' := by
    show s.l.dropWhile (fun f => decide (s.skew < (i : Int) - f.tick)) = _
    rw [h.l, h.k, h3]
  have hin := h.i
  have hmem : ∀ f ∈ frs lo' n', f.seq ≠ sq i ∧ f.ahead (sq i) = false := by
    intro f hf
    obtain ⟨t, t1, t2, rfl⟩ := frs_mem hf
    have := h4 (by omega)
    exact ⟨sq_ne (by omega) (by omega), decide_eq_false (sq_far (by omega) (by omega))⟩
  have hj : (s.forget i).judge i 0 (sq i) = (0, (s.forget i).put i 0 (sq i)) := by
    unfold FS.judge
    rw [hl, twiced_none (fun f hf he => absurd he (hmem f hf).1)]
    simp only
    rw [if_neg (fun ⟨f, hf, he⟩ => (hmem f hf).1 he), if_neg]
    rintro ⟨_, hp⟩
    unfold FS.passed at hp
    rw [hl, List.any_eq_true] at hp
    obtain ⟨f, hf, ha⟩ := hp
    rw [(hmem f hf).2] at ha
    cases ha
  have htk : s.take i 0 (sq i) = (0, (s.forget i).put i 0 (sq i)) := by
    unfold FS.take
    rw [if_pos ht, hj]
  obtain ⟨p1, p2, p3, p4⟩ := put_parts (s.forget i) i 0 (sq i)
  have hn' : (n' : Int) ≤ k := by
    by_cases hp : 0 < n'
    · have := h4 hp; omega
    · omega
  rw [htk]
  refine ⟨rfl, lo', n' + 1, ⟨?_, by omega, ?_, ?_, ?_, ?_, by omega⟩, ?_, by omega, ?_⟩
  · show ((s.forget i).put i 0 (sq i)).l = _
    rw [p4, hl, frs_len]
    have hc : cutAt n' = 0 := by unfold cutAt; omega
    rw [hc, List.drop_zero]
    have := frs_app n' lo'
    rw [show lo' + n' = i by omega] at this
    exact this
  · simp only [FS.put, FS.forget]
    exact h.k
  · simp only [FS.put, FS.forget]
    omega
  · show ((s.forget i).put i 0 (sq i)).thr = _
    rw [p1]
    show s.thr + 1 = _
    rw [h.thr]
    simp
  · show ((s.forget i).put i 0 (sq i)).twi = _
    rw [p2]
    exact h.twi
  · simp only [FS.put, FS.forget]
  · by_cases hp : 0 < n'
    · exact h4 hp
    · omega
theorem aln_again {s : FS} {k : Int} {i lo n : Nat} (h : Aln s k (i + 1) lo n) (hk : 0 ≤ k ∧ k ≤ 100) (hi : i ≤ 600) (hnow : s.now = i) (hn : 0 < n) (hlo : (i : Int) - lo ≤ k) : (s.take i 0 (sq i)).1 = 25 ∧ Aln (s.take i 0 (sq i)).2 k (i + 1) lo n := by
  have ht : s.timely i 0 (sq i) = 0 := by
    have := sq_range i
    unfold FS.timely
    rw [if_neg (by omega), if_neg (by omega)]
  have hin := h.i
  have hl : (s.forget i).l = frs lo n := by
    show s.l.dropWhile (fun f => decide (s.skew < (i : Int) - f.tick)) = _
    rw [h.l, h.k]
    obtain ⟨m, rfl⟩ : ∃ m, n = m + 1 := ⟨n - 1, by omega⟩
    show (⟨sq lo, lo, 1⟩ :: frs (lo + 1) m).dropWhile _ = _
    rw [List.dropWhile_cons, if_neg (by simp; omega)]
    rfl
  have hj : (s.forget i).judge i 0 (sq i) = (25, { s.forget i with old := (s.forget i).old + 1 }) := by
    unfold FS.judge
    rw [hl, twiced_none]
    · simp only
      rw [if_pos ⟨⟨sq i, i, 1⟩, mem_frs (by omega) (by omega), rfl⟩, hl]
    · intro f hf _
      obtain ⟨t, t1, t2, rfl⟩ := frs_mem hf
      rfl
  have htk : s.take i 0 (sq i) = (25, { s.forget i with old := (s.forget i).old + 1 }) := by
    unfold FS.take
    rw [if_pos ht, hj]
  rw [htk]
  exact ⟨rfl, hl, hin, h.k, by show (i : Int) ≤ ((i + 1 : Nat) : Int); omega, h.thr, h.twi, h.n⟩
theorem aln_fresh (k : Int) (hk : 0 ≤ k) : Aln (FS.fresh k) k 0 0 0 := ⟨rfl, rfl, rfl, by simp [FS.fresh], by simp [FS.fresh], rfl, by omega⟩
end Go.Proofs.Ytdhgallfplbhpaa
