/- Frames in order, each on one network at once and its copy later on the other one, or not at all: each goes through once. Conditions: plain laws; at most 100 frames. -/
import Derived.Test.YtdhgallfplbhpaaAln
namespace Go.Proofs.Ytdhgallfplbhpaa
open Go.RowKit
set_option linter.unusedVariables false
/-- What is sent: when each frame comes at once, on which network, how much later its copy comes. -/
structure Snd where
  T : Nat → Int
  N : Nat → Int
  Lt : Nat → Int
/-- An event: its tick, its network (in seq), its frame's index (in nets). -/
def Snd.orig (S : Snd) (k : Nat) : Fr := ⟨S.N k, S.T k, k⟩
def Snd.copy (S : Snd) (k : Nat) : Fr := ⟨1 - S.N k, S.T k + S.Lt k, k⟩
def ins (x : Fr) : List Fr → List Fr
  | [] => [x]
  | f :: l => if x.tick < f.tick then x :: f :: l else f :: ins x l
def Snd.evl (S : Snd) : Nat → List Fr
  | 0 => []
  | k + 1 => if 0 ≤ S.Lt k then ins (S.copy k) (ins (S.orig k) (S.evl k)) else ins (S.orig k) (S.evl k)
/-- The events come as they may: n frames in all, copies of the first K alone, m frames have come, C: whose copies have come; none before t. -/
def Okk (S : Snd) (n K : Nat) : Nat → (Nat → Prop) → Int → List Fr → Prop
  | m, C, t, [] => m = n
  | m, C, t, e :: es => t ≤ e.tick ∧ ((e = S.orig m ∧ m < n ∧ Okk S n K (m + 1) C e.tick es) ∨ (e.nets < m ∧ e.nets < K ∧ 0 ≤ S.Lt e.nets ∧ e = S.copy e.nets ∧ ¬ C e.nets ∧ Okk S n K m (fun j => C j ∨ j = e.nets) e.tick es))
theorem okk_later {S : Snd} {n K m : Nat} {C : Nat → Prop} {t t' : Int} : ∀ {es : List Fr}, Okk S n K m C t es → (∀ e ∈ es.head?, t' ≤ e.tick) → Okk S n K m C t' es
  | [], h, _ => h
  | e :: es, h, ht => ⟨ht e (by simp), h.2⟩
theorem okk_wide {S : Snd} {n K K' : Nat} (hK : K ≤ K') : ∀ {es : List Fr} {m : Nat} {C C' : Nat → Prop} {t : Int}, (∀ j, j < K → C' j → C j) → Okk S n K m C t es → Okk S n K' m C' t es
  | [], m, C, C', t, hC, h => h
  | e :: es, m, C, C', t, hC, h => by
    obtain ⟨h1, h2 | ⟨a, b, c, d, f, g⟩⟩ := h
    · exact ⟨h1, .inl ⟨h2.1, h2.2.1, okk_wide hK hC h2.2.2⟩⟩
    · refine ⟨h1, .inr ⟨a, by omega, c, d, fun hc => f (hC _ b hc), okk_wide hK (fun j hj hc => ?_) g⟩⟩
      rcases hc with hc | hc
      · exact .inl (hC j hj hc)
      · exact .inr hc
theorem okk_end {S : Snd} {k K : Nat} (hT : ∀ j, j < k → S.T j < S.T k) : ∀ {es : List Fr} {m : Nat} {C : Nat → Prop} {t : Int}, S.T k < t → Okk S k K m C t es → m = k ∧ Okk S (k + 1) K (k + 1) C t es
  | [], m, C, t, ht, h => ⟨h, rfl⟩
  | e :: es, m, C, t, ht, h => by
    obtain ⟨h1, h2 | ⟨a, b, c, d, f, g⟩⟩ := h
    · have := hT m h2.2.1
      have he : e.tick = S.T m := by rw [h2.1]; rfl
      omega
    · obtain ⟨i1, i2⟩ := okk_end hT (t := e.tick) (by omega) g
      exact ⟨i1, h1, .inr ⟨by omega, b, c, d, f, i2⟩⟩
theorem okk_orig {S : Snd} {k K : Nat} (hT : ∀ j, j < k → S.T j < S.T k) : ∀ {es : List Fr} {m : Nat} {C : Nat → Prop} {t : Int}, t ≤ S.T k → Okk S k K m C t es → Okk S (k + 1) K m C t (ins (S.orig k) es)
  | [], m, C, t, ht, h => by
    have h : m = k := h
    subst h
    exact ⟨ht, .inl ⟨rfl, by omega, rfl⟩⟩
  | e :: es, m, C, t, ht, h => by
    unfold ins
    by_cases hlt : (S.orig k).tick < e.tick
    · rw [if_pos hlt]
      have hlt' : S.T k < e.tick := hlt
      have h' : Okk S k K m C e.tick (e :: es) := okk_later h (fun e' he' => by simp at he'; subst he'; exact Int.le_refl _)
      obtain ⟨i1, i2⟩ := okk_end hT hlt' h'
      subst i1
      exact ⟨ht, .inl ⟨rfl, by omega, okk_later i2 (fun e' he' => by simp at he'; subst he'; show S.T m ≤ _; omega)⟩⟩
    · rw [if_neg hlt]
      have hle : e.tick ≤ S.T k := by have : ¬ S.T k < e.tick := hlt; omega
      obtain ⟨h1, h2 | ⟨a, b, c, d, f, g⟩⟩ := h
      · exact ⟨h1, .inl ⟨h2.1, by omega, okk_orig hT hle h2.2.2⟩⟩
      · exact ⟨h1, .inr ⟨a, b, c, d, f, okk_orig hT hle g⟩⟩
theorem okk_before {S : Snd} {n K j : Nat} (hj : j < n) : ∀ {es : List Fr} {m : Nat} {C : Nat → Prop} {t : Int}, m ≤ j → Okk S n K m C t es → t ≤ S.T j
  | [], m, C, t, hm, h => by
    have h : m = n := h
    omega
  | e :: es, m, C, t, hm, h => by
    obtain ⟨h1, h2 | ⟨a, b, c, d, f, g⟩⟩ := h
    · have he : e.tick = S.T m := by rw [h2.1]; rfl
      by_cases hmj : m = j
      · subst hmj; omega
      · have := okk_before hj (by omega) h2.2.2
        omega
    · have := okk_before hj hm g
      omega
theorem okk_copy {S : Snd} {k : Nat} (hL : 0 ≤ S.Lt k) : ∀ {es : List Fr} {m : Nat} {C : Nat → Prop} {t : Int}, ¬ C k → t ≤ S.T k + S.Lt k → Okk S (k + 1) k m C t es → Okk S (k + 1) (k + 1) m C t (ins (S.copy k) es)
  | [], m, C, t, hC, ht, h => by
    have h : m = k + 1 := h
    subst h
    exact ⟨ht, .inr ⟨by show k < k + 1; omega, by show k < k + 1; omega, hL, rfl, hC, rfl⟩⟩
  | e :: es, m, C, t, hC, ht, h => by
    unfold ins
    by_cases hlt : (S.copy k).tick < e.tick
    · rw [if_pos hlt]
      have hlt' : S.T k + S.Lt k < e.tick := hlt
      have h' : Okk S (k + 1) k m C e.tick (e :: es) := okk_later h (fun e' he' => by simp at he'; subst he'; exact Int.le_refl _)
      have hkm : k < m := by
        apply Classical.byContradiction
        intro hn
        have := okk_before (j := k) (by omega) (by omega) h'
        omega
      refine ⟨ht, .inr ⟨hkm, by show k < k + 1; omega, hL, rfl, hC, ?_⟩⟩
      refine okk_wide (by omega) (fun j hj hc => ?_) (okk_later h' (fun e' he' => by simp at he'; subst he'; show S.T k + S.Lt k ≤ _; omega))
      rcases hc with hc | hc
      · exact hc
      · have : j = k := hc
        omega
    · rw [if_neg hlt]
      have hle : e.tick ≤ S.T k + S.Lt k := by have : ¬ S.T k + S.Lt k < e.tick := hlt; omega
      obtain ⟨h1, h2 | ⟨a, b, c, d, f, g⟩⟩ := h
      · exact ⟨h1, .inl ⟨h2.1, h2.2.1, okk_copy hL hC hle h2.2.2⟩⟩
      · exact ⟨h1, .inr ⟨a, by omega, c, d, f, okk_copy hL (fun hc => by rcases hc with hc | hc; exact hC hc; omega) hle g⟩⟩
/-- As they are sent. -/
structure Snd.ok (S : Snd) (skew : Int) (n : Nat) : Prop where
  mono : ∀ i j, i < j → j < n → S.T i < S.T j
  t0 : ∀ i, i < n → 0 ≤ S.T i ∧ S.T i ≤ 214748364800
  net : ∀ i, i < n → S.N i = 0 ∨ S.N i = 1
  late : ∀ i, i < n → S.Lt i ≤ skew
theorem Snd.ok.less {S : Snd} {skew : Int} {n k : Nat} (h : S.ok skew n) (hk : k ≤ n) : S.ok skew k := ⟨fun i j h1 h2 => h.mono i j h1 (by omega), fun i hi => h.t0 i (by omega), fun i hi => h.net i (by omega), fun i hi => h.late i (by omega)⟩
theorem okk_all {S : Snd} {skew : Int} : ∀ {n : Nat}, S.ok skew n → Okk S n n 0 (fun _ => False) 0 (S.evl n)
  | 0, _ => rfl
  | k + 1, h => by
    have ih := okk_all (h.less (Nat.le_succ k))
    have h1 := okk_orig (fun j hj => h.mono j k hj (by omega)) (h.t0 k (by omega)).1 ih
    unfold Snd.evl
    by_cases hL : 0 ≤ S.Lt k
    · rw [if_pos hL]
      exact okk_copy hL (fun h => h) (by have := (h.t0 k (by omega)).1; omega) h1
    · rw [if_neg hL]
      exact okk_wide (Nat.le_succ k) (fun j hj hc => hc) h1
end Go.Proofs.Ytdhgallfplbhpaa
