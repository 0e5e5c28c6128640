/- What the filter answers to such frames. Conditions: plain laws; at most 100 frames. -/
import Derived.Test.YtdhgallfplbhpaaOnc
namespace Go.Proofs.Ytdhgallfplbhpaa
open Go.RowKit
set_option linter.unusedVariables false
theorem dropWhile_keep {α : Type} {p : α → Bool} : ∀ {l : List α} {x : α}, x ∈ l → p x = false → x ∈ l.dropWhile p
  | [], x, h, _ => by cases h
  | y :: l, x, h, hp => by
    rw [List.dropWhile_cons]
    by_cases hy : p y = true
    · rw [if_pos hy]
      rcases List.mem_cons.1 h with rfl | h
      · rw [hp] at hy; cases hy
      · exact dropWhile_keep h hp
    · rw [if_neg hy]
      exact h
theorem twiced_is {net seq : Int} : ∀ {l : List Fr} {f : Fr}, f ∈ l → f.seq = seq → f.hit net = false → ∃ l', twiced net seq l = some l'
  | [], f, h, _, _ => by cases h
  | q :: l, f, h, h1, h2 => by
    unfold twiced
    by_cases hq : q.seq = seq ∧ q.hit net = false
    · rw [if_pos hq]; exact ⟨_, rfl⟩
    · rw [if_neg hq]
      rcases List.mem_cons.1 h with rfl | h
      · exact absurd ⟨h1, h2⟩ hq
      · obtain ⟨l', hl'⟩ := twiced_is h h1 h2
        exact ⟨q :: l', by rw [hl']; rfl⟩
theorem twiced_more {net seq : Int} : ∀ {l l' : List Fr}, twiced net seq l = some l' → (∀ f' ∈ l', ∃ f ∈ l, f'.seq = f.seq ∧ f'.tick = f.tick ∧ (f.seq ≠ seq → f' = f)) ∧ (∀ f ∈ l, ∃ f' ∈ l', f'.seq = f.seq)
  | [], l', h => by simp [twiced] at h
  | q :: l, l', h => by
    unfold twiced at h
    split at h
    · rename_i hq
      injection h with h
      subst h
      refine ⟨fun f' hf' => ?_, fun f hf => ?_⟩
      · rcases List.mem_cons.1 hf' with rfl | hf'
        · exact ⟨q, by simp, rfl, rfl, fun hne => absurd hq.1 hne⟩
        · exact ⟨f', by simp [hf'], rfl, rfl, fun _ => rfl⟩
      · rcases List.mem_cons.1 hf with rfl | hf
        · exact ⟨_, List.mem_cons_self, rfl⟩
        · exact ⟨f, by simp [hf], rfl⟩
    · obtain ⟨m, hm, rfl⟩ := Option.map_eq_some_iff.1 h
      have ih := twiced_more hm
      refine ⟨fun f' hf' => ?_, fun f hf => ?_⟩
      · rcases List.mem_cons.1 hf' with rfl | hf'
        · exact ⟨f', by simp, rfl, rfl, fun _ => rfl⟩
        · obtain ⟨f, h1, h2⟩ := ih.1 f' hf'
          exact ⟨f, by simp [h1], h2⟩
      · rcases List.mem_cons.1 hf with rfl | hf
        · exact ⟨f, by simp, rfl⟩
        · obtain ⟨f', h1, h2⟩ := ih.2 f hf
          exact ⟨f', by simp [h1], h2⟩
/-- What the filter holds when m frames have come, and the copies of C. -/
structure OSt (S : Snd) (skew : Int) (s : FS) (m : Nat) (C : Nat → Prop) (t : Int) : Prop where
  k : s.skew = skew
  now : s.now ≤ t
  fr : ∀ f ∈ s.l, ∃ j : Nat, j < m ∧ f.seq = j ∧ f.tick = S.T j ∧ (¬ C j → f.nets = (S.N j).toNat + 1)
  has : ∀ j : Nat, j < m → t ≤ S.T j + skew → ∃ f ∈ s.l, f.seq = j
  thr : s.thr = m
  len : s.l.length ≤ m
theorem ost_fresh (S : Snd) (k : Int) : OSt S k (FS.fresh k) 0 (fun _ => False) 0 := ⟨rfl, by simp [FS.fresh], fun f hf => by simp [FS.fresh] at hf, fun j hj => absurd hj (by omega), by simp [FS.fresh], by simp [FS.fresh]⟩
theorem ost_timely {S : Snd} {skew t now net : Int} {s : FS} {m j : Nat} {C : Nat → Prop} (h : OSt S skew s m C t) (h1 : t ≤ now) (h0 : 0 ≤ now ∧ now ≤ 1125899906842624) (h2 : net = 0 ∨ net = 1) (hj : j ≤ 255) : s.timely now net j = 0 := by
  have := h.now
  unfold FS.timely
  rw [if_neg (by omega), if_neg (by omega)]
theorem ost_orig {S : Snd} {skew t : Int} {s : FS} {m n : Nat} {C : Nat → Prop} (h : OSt S skew s m C t) (ok : S.ok skew n) (hk : 0 ≤ skew ∧ skew ≤ 1073741824) (hn : n ≤ 100) (hm : m < n) (ht : t ≤ S.T m) :
    (s.take (S.T m) (S.N m) m).1 = 0 ∧ OSt S skew (s.take (S.T m) (S.N m) m).2 (m + 1) C (S.T m) := by
  have hT := ok.t0 m hm
  have htm := ost_timely h ht (j := m) (by omega) (ok.net m hm) (by omega)
  have hsub : ∀ f ∈ (s.forget (S.T m)).l, f ∈ s.l := fun f hf => dropWhile_mem hf
  have hlen : (s.forget (S.T m)).l.length ≤ m := Nat.le_trans dropWhile_len h.len
  have hseq : ∀ f ∈ (s.forget (S.T m)).l, f.seq ≠ (m : Int) ∧ f.ahead m = false := by
    intro f hf
    obtain ⟨j, hj, h1, _, _⟩ := h.fr f (hsub f hf)
    refine ⟨by omega, decide_eq_false ?_⟩
    rw [h1]
    by_cases hj0 : j = 0
    · subst hj0
      have : step (m : Int) ((0 : Nat) : Int) = 0 := step_zero (.inr (by simp))
      omega
    · rw [step_lin (by omega) (by omega)]
      split <;> omega
  have hj : (s.forget (S.T m)).judge (S.T m) (S.N m) m = (0, (s.forget (S.T m)).put (S.T m) (S.N m) m) := by
    unfold FS.judge
    rw [twiced_none (fun f hf he => absurd he (hseq f hf).1)]
    simp only
    rw [if_neg (fun ⟨f, hf, he⟩ => (hseq f hf).1 he), if_neg]
    rintro ⟨_, hp⟩
    unfold FS.passed at hp
    rw [List.any_eq_true] at hp
    obtain ⟨f, hf, ha⟩ := hp
    rw [(hseq f hf).2] at ha
    cases ha
  have htk : s.take (S.T m) (S.N m) m = (0, (s.forget (S.T m)).put (S.T m) (S.N m) m) := by
    unfold FS.take
    rw [if_pos htm, hj]
  obtain ⟨p1, p2, p3, p4⟩ := put_parts (s.forget (S.T m)) (S.T m) (S.N m) m
  have hcut : cutAt (s.forget (S.T m)).l.length = 0 := by unfold cutAt; omega
  rw [hcut, List.drop_zero] at p4
  rw [htk]
  refine ⟨rfl, ?_, ?_, ?_, ?_, ?_, ?_⟩
  · simp only [FS.put, FS.forget]; exact h.k
  · simp only [FS.put, FS.forget]; exact Int.le_refl _
  · show ∀ f ∈ ((s.forget (S.T m)).put (S.T m) (S.N m) m).l, _
    rw [p4]
    intro f hf
    rcases List.mem_append.1 hf with hf | hf
    · obtain ⟨j, hj, h1, h2, h3⟩ := h.fr f (hsub f hf)
      exact ⟨j, by omega, h1, h2, h3⟩
    · rw [List.mem_singleton] at hf
      subst hf
      exact ⟨m, by omega, rfl, rfl, fun _ => rfl⟩
  · intro j hj hl
    show ∃ f ∈ ((s.forget (S.T m)).put (S.T m) (S.N m) m).l, _
    rw [p4]
    by_cases hjm : j = m
    · subst hjm
      exact ⟨_, List.mem_append.2 (.inr (List.mem_singleton.2 rfl)), rfl⟩
    · obtain ⟨f, hf, hs⟩ := h.has j (by omega) (by omega)
      obtain ⟨j', _, h1, h2, _⟩ := h.fr f hf
      have : j' = j := by omega
      subst this
      refine ⟨f, List.mem_append.2 (.inl (dropWhile_keep hf (decide_eq_false ?_))), hs⟩
      rw [h.k, h2]
      omega
  · show ((s.forget (S.T m)).put (S.T m) (S.N m) m).thr = _
    rw [p1]
    show s.thr + 1 = _
    rw [h.thr]
    simp
  · show ((s.forget (S.T m)).put (S.T m) (S.N m) m).l.length ≤ _
    rw [p4, List.length_append, List.length_singleton]
    omega
theorem ost_copy {S : Snd} {skew t : Int} {s : FS} {m n j : Nat} {C : Nat → Prop} (h : OSt S skew s m C t) (ok : S.ok skew n) (hk : 0 ≤ skew ∧ skew ≤ 1073741824) (hn : n ≤ 100) (hm : m ≤ n) (hjm : j < m) (hL : 0 ≤ S.Lt j) (hC : ¬ C j) (ht : t ≤ S.T j + S.Lt j) :
    (s.take (S.T j + S.Lt j) (1 - S.N j) j).1 = 21 ∧ OSt S skew (s.take (S.T j + S.Lt j) (1 - S.N j) j).2 m (fun i => C i ∨ i = j) (S.T j + S.Lt j) := by
  have hT := ok.t0 j (by omega)
  have hN := ok.net j (by omega)
  have hlate := ok.late j (by omega)
  have htm := ost_timely h ht (j := j) (net := 1 - S.N j) (by omega) (by omega) (by omega)
  have hsub : ∀ f ∈ (s.forget (S.T j + S.Lt j)).l, f ∈ s.l := fun f hf => dropWhile_mem hf
  have hlen : (s.forget (S.T j + S.Lt j)).l.length ≤ m := Nat.le_trans dropWhile_len h.len
  have hkeep : ∀ f ∈ s.l, ∀ i : Nat, f.tick = S.T i → S.T j + S.Lt j ≤ S.T i + skew → f ∈ (s.forget (S.T j + S.Lt j)).l := fun f hf i h1 h2 => dropWhile_keep hf (decide_eq_false (by rw [h.k, h1]; omega))
  obtain ⟨f0, hf0, hs0⟩ := h.has j hjm (by omega)
  obtain ⟨j', _, e1, e2, e3⟩ := h.fr f0 hf0
  have : j' = j := by omega
  subst this
  have hnet := e3 hC
  have hhit : f0.hit (1 - S.N j') = false := by
    unfold Fr.hit
    rw [hnet]
    rcases hN with hN | hN <;> rw [hN] <;> rfl
  obtain ⟨l', hl'⟩ := twiced_is (hkeep f0 hf0 j' e2 (by omega)) hs0 hhit
  obtain ⟨m1, m2⟩ := twiced_more hl'
  have hj : (s.forget (S.T j' + S.Lt j')).judge (S.T j' + S.Lt j') (1 - S.N j') j' = (21, { s.forget (S.T j' + S.Lt j') with l := l', twi := (s.forget (S.T j' + S.Lt j')).twi + 1 }) := by
    unfold FS.judge
    rw [hl']
  have htk : s.take (S.T j' + S.Lt j') (1 - S.N j') j' = (21, { s.forget (S.T j' + S.Lt j') with l := l', twi := (s.forget (S.T j' + S.Lt j')).twi + 1 }) := by
    unfold FS.take
    rw [if_pos htm, hj]
  rw [htk]
  refine ⟨rfl, h.k, Int.le_refl _, ?_, ?_, h.thr, ?_⟩
  · intro f' hf'
    obtain ⟨f, hf, q1, q2, q3⟩ := m1 f' hf'
    obtain ⟨i, hi, r1, r2, r3⟩ := h.fr f (hsub f hf)
    refine ⟨i, hi, by rw [q1]; exact r1, by rw [q2]; exact r2, fun hc => ?_⟩
    have hij : i ≠ j' := fun e => hc (.inr e)
    rw [q3 (by omega)]
    exact r3 (fun hc' => hc (.inl hc'))
  · intro i hi hl
    obtain ⟨f, hf, hs⟩ := h.has i hi (by omega)
    obtain ⟨i', _, r1, r2, _⟩ := h.fr f hf
    have : i' = i := by omega
    subst this
    obtain ⟨f', hf', hs'⟩ := m2 f (hkeep f hf i' r2 (by omega))
    exact ⟨f', hf', by rw [hs']; exact hs⟩
  · show l'.length ≤ m
    rw [(twiced_spec hl').1]
    exact hlen
end Go.Proofs.Ytdhgallfplbhpaa
