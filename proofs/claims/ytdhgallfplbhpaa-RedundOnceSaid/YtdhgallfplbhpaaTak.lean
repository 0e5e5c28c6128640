/- Take: what it answers and leaves, as a function of what the filter holds. Conditions: plain lemmas. -/
import Derived.Test.YtdhgallfplbhpaaPas
namespace Go.Proofs.Ytdhgallfplbhpaa
open Go.RowKit Go.Proofs.YtdhgallfplbhpaaW.PrintWords
set_option linter.unusedVariables false

/-- A copy's first is marked. -/
def twiced (net seq : Int) : List Fr → Option (List Fr)
  | [] => none
  | f :: l => if f.seq = seq ∧ f.hit net = false then some ({ f with nets := 3 } :: l) else (twiced net seq l).map (f :: ·)
theorem twiced_some {net seq : Int} : ∀ {l : List Fr} {k : Nat} {f : Fr}, l[k]? = some f → f.seq = seq → f.hit net = false → (∀ f' ∈ l.take k, f'.seq = seq → f'.hit net = true) → twiced net seq l = some (l.set k { f with nets := 3 })
  | [], k, f, h, _, _, _ => by simp at h
  | q :: l, 0, f, h, h1, h2, _ => by
    simp at h
    subst h
    simp [twiced, h1, h2]
  | q :: l, k + 1, f, h, h1, h2, h3 => by
    simp only [List.getElem?_cons_succ] at h
    have hq : ¬ (q.seq = seq ∧ q.hit net = false) := fun ⟨a, b⟩ => by
      have := h3 q (by simp) a
      rw [b] at this
      cases this
    have := twiced_some h h1 h2 (fun f' hf' => h3 f' (by simp [hf']))
    simp only [twiced, if_neg hq, this, Option.map_some, List.set_cons_succ]
theorem twiced_none {net seq : Int} : ∀ {l : List Fr}, (∀ f ∈ l, f.seq = seq → f.hit net = true) → twiced net seq l = none
  | [], _ => rfl
  | q :: l, h => by
    have hq : ¬ (q.seq = seq ∧ q.hit net = false) := fun ⟨a, b⟩ => by
      have := h q (by simp) a
      rw [b] at this
      cases this
    have := twiced_none (l := l) (net := net) (seq := seq) fun f hf => h f (by simp [hf])
    simp [twiced, hq, this]
def cutAt (n : Nat) : Nat := n + 1 - 256
def FS.put (s : FS) (now net seq : Int) : FS := { s with l := (s.l ++ [Fr.mk seq now (net.toNat + 1)]).drop (cutAt s.l.length), thr := s.thr + 1 }
/-- Take behind forget. -/
def FS.judge (s : FS) (now net seq : Int) : Int × FS :=
  match twiced net seq s.l with
  | some l' => (21, { s with l := l', twi := s.twi + 1 })
  | none =>
    if ∃ f ∈ s.l, f.seq = seq then (25, { s with old := s.old + 1 })
    else if seq ≠ 0 ∧ s.passed seq = true then (28, { s with old := s.old + 1 })
    else (0, s.put now net seq)
def FS.take (s : FS) (now net seq : Int) : Int × FS :=
  if s.timely now net seq = 0 then (s.forget now).judge now net seq else (s.timely now net seq, s)
structure FS.ok (s : FS) : Prop where
  k0 : 0 ≤ s.skew
  k1 : s.skew ≤ 1073741824
  n0 : 0 ≤ s.now
  n1 : s.now ≤ 1125899906842624
  l : ∀ f ∈ s.l, f.well ∧ 0 ≤ f.tick ∧ f.tick ≤ s.now ∧ 0 ≤ f.seq ∧ f.seq ≤ 255
  len : s.l.length ≤ 256
theorem twiced_spec {net seq : Int} : ∀ {l l' : List Fr}, twiced net seq l = some l' → l'.length = l.length ∧ ∀ f' ∈ l', ∃ f ∈ l, f'.seq = f.seq ∧ f'.tick = f.tick ∧ (f' = f ∨ f'.nets = 3)
  | [], l', h => by simp [twiced] at h
  | q :: l, l', h => by
    unfold twiced at h
    split at h
    · injection h with h
      subst h
      refine ⟨rfl, fun f' hf' => ?_⟩
      rcases List.mem_cons.1 hf' with rfl | hf'
      · exact ⟨q, by simp, rfl, rfl, .inr rfl⟩
      · exact ⟨f', by simp [hf'], rfl, rfl, .inl rfl⟩
    · obtain ⟨m, hm, rfl⟩ := Option.map_eq_some_iff.1 h
      have ih := twiced_spec hm
      refine ⟨by simp [ih.1], fun f' hf' => ?_⟩
      rcases List.mem_cons.1 hf' with rfl | hf'
      · exact ⟨f', by simp, rfl, rfl, .inl rfl⟩
      · obtain ⟨f, h1, h2⟩ := ih.2 f' hf'
        exact ⟨f, by simp [h1], h2⟩
theorem dropWhile_mem {α : Type} {p : α → Bool} : ∀ {l : List α} {x : α}, x ∈ l.dropWhile p → x ∈ l
  | [], x, h => by simp at h
  | y :: l, x, h => by
    rw [List.dropWhile_cons] at h
    split at h
    · exact List.mem_cons_of_mem _ (dropWhile_mem h)
    · exact h
theorem dropWhile_len {α : Type} {p : α → Bool} : ∀ {l : List α}, (l.dropWhile p).length ≤ l.length
  | [] => by simp
  | y :: l => by
    rw [List.dropWhile_cons]
    split
    · have := dropWhile_len (p := p) (l := l); simp; omega
    · exact Nat.le_refl _
theorem timely_ok {s : FS} {now net seq : Int} (h : s.timely now net seq = 0) : (0 ≤ now ∧ now ≤ 1125899906842624) ∧ (net = 0 ∨ net = 1) ∧ (0 ≤ seq ∧ seq ≤ 255) ∧ s.now ≤ now := by
  unfold FS.timely at h
  split at h
  · cases h
  · split at h
    · cases h
    · omega
theorem forget_ok {s : FS} {now : Int} (h : s.ok) (h1 : s.now ≤ now) (h2 : now ≤ 1125899906842624) : (s.forget now).ok :=
  ⟨h.k0, h.k1, by have := h.n0; show 0 ≤ now; omega, h2, fun f hf => by
    obtain ⟨a, b, c, d⟩ := h.l f (dropWhile_mem hf)
    exact ⟨a, b, by show f.tick ≤ now; omega, d⟩, Nat.le_trans dropWhile_len h.len⟩
theorem put_ok {s : FS} {now net seq : Int} (h : s.ok) (hn : s.now = now) (h1 : net = 0 ∨ net = 1) (h2 : 0 ≤ seq ∧ seq ≤ 255) : (s.put now net seq).ok := by
  have hl : (s.put now net seq).l = (s.l ++ [Fr.mk seq now (net.toNat + 1)]).drop (cutAt s.l.length) := by simp only [FS.put]
  have e1 : (s.put now net seq).skew = s.skew := by simp only [FS.put]
  have e2 : (s.put now net seq).now = s.now := by simp only [FS.put]
  refine ⟨by rw [e1]; exact h.k0, by rw [e1]; exact h.k1, by rw [e2]; exact h.n0, by rw [e2]; exact h.n1, ?_, ?_⟩
  · rw [hl, e2]
    intro f hf
    have hf := List.mem_of_mem_drop hf
    rcases List.mem_append.1 hf with hf | hf
    · exact h.l f hf
    · rw [List.mem_singleton] at hf
      subst hf
      refine ⟨?_, by have := h.n0; show 0 ≤ now; omega, by show now ≤ s.now; omega, h2⟩
      rcases h1 with rfl | rfl
      · exact .inl rfl
      · exact .inr (.inl rfl)
  · rw [hl, List.length_drop, List.length_append, List.length_singleton]
    have := h.len
    unfold cutAt
    omega
theorem judge_ok {s : FS} {now net seq : Int} (h : s.ok) (hn : s.now = now) (h1 : net = 0 ∨ net = 1) (h2 : 0 ≤ seq ∧ seq ≤ 255) : (s.judge now net seq).2.ok := by
  unfold FS.judge
  split
  · rename_i l' hl'
    obtain ⟨a, b⟩ := twiced_spec hl'
    refine ⟨h.k0, h.k1, h.n0, h.n1, fun f hf => ?_, by show l'.length ≤ 256; rw [a]; exact h.len⟩
    obtain ⟨f0, c1, c2, c3, c4⟩ := b f hf
    obtain ⟨d1, d2, d3, d4⟩ := h.l f0 c1
    refine ⟨?_, by rw [c3]; exact d2, by rw [c3]; exact d3, by rw [c2]; exact d4⟩
    rcases c4 with rfl | c4
    · exact d1
    · exact .inr (.inr c4)
  · split
    · exact ⟨h.k0, h.k1, h.n0, h.n1, h.l, h.len⟩
    · split
      · exact ⟨h.k0, h.k1, h.n0, h.n1, h.l, h.len⟩
      · refine put_ok h hn h1 h2
theorem take_ok {s : FS} (h : s.ok) (now net seq : Int) : (s.take now net seq).2.ok := by
  unfold FS.take
  split
  · rename_i ht
    obtain ⟨a, b, c, d⟩ := timely_ok ht
    exact judge_ok (forget_ok h d a.2) rfl b c
  · exact h
theorem fresh_ok {k : Int} (h : 0 ≤ k ∧ k ≤ 1073741824) : (FS.fresh k).ok := ⟨h.1, h.2, by simp [FS.fresh], by simp [FS.fresh], fun f hf => by simp [FS.fresh] at hf, by simp [FS.fresh]⟩
theorem reset_ok {s : FS} (h : s.ok) : s.reset.ok := ⟨h.k0, h.k1, h.n0, h.n1, fun f hf => by simp [FS.reset] at hf, by simp [FS.reset]⟩
end Go.Proofs.Ytdhgallfplbhpaa
