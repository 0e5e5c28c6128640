/- Arrays of four slices of texts that a statement has made; objects that lie apart. Conditions: none. -/
import Derived.Test.YtjhpeelgehchiaaDecOp
namespace Go.Proofs.Ytjhpeelgehchiaa
open Go.RowKit Go.Proofs.YtjhpeelgehchiaaW.PrintWords
set_option linter.unusedVariables false

def arrOf (vs : Nat → Value) : Array Value := #[vs 0, vs 1, vs 2, vs 3]
theorem arrOf_get (vs : Nat → Value) {j : Nat} (h : j < 4) : (arrOf vs)[j]? = some (vs j) := by
  rcases four h with rfl | rfl | rfl | rfl <;> rfl
theorem arrOf_set (vs : Nat → Value) {j : Nat} (h : j < 4) (u : Value) : (arrOf vs).setIfInBounds j u = arrOf (upd vs j u) := by
  rcases four h with rfl | rfl | rfl | rfl <;> rfl
/-- An array of four slices of texts. -/
def HeldA (w : World) (g : Nat) (L : Nat → List ByteArray) : Prop := ∃ vs, Blk w g 36 (arrOf vs) ∧ Lies w vs L
theorem mine_arr {w : World} {g k : Nat} {vs : Nat → Value} (hb : Blk w g 36 (arrOf vs)) : Mine w g k ↔ (k = g ∨ ∃ i, i < 4 ∧ (vs i).ownBlock = some k) := by
  constructor
  · rintro (h | ⟨i, v, hi, hc, hv⟩)
    · exact .inl h
    · rw [hb.cell i, arrOf_get _ hi] at hc
      injection hc with hc
      exact .inr ⟨i, hi, by rw [hc]; exact hv⟩
  · rintro (h | ⟨i, hi, hv⟩)
    · exact .inl h
    · exact .inr ⟨i, vs i, hi, by rw [hb.cell i, arrOf_get _ hi], hv⟩
theorem HeldA.lt {w : World} {g : Nat} {L : Nat → List ByteArray} (h : HeldA w g L) : g < w.heap.size := by
  obtain ⟨vs, hb, _⟩ := h
  exact hb.lt
theorem HeldA.mine_lt {w : World} {g k : Nat} {L : Nat → List ByteArray} (h : HeldA w g L) (hk : Mine w g k) : k < w.heap.size := by
  obtain ⟨vs, hb, hr⟩ := h
  rcases (mine_arr hb).1 hk with rfl | ⟨i, hi, hv⟩
  · exact hb.lt
  · obtain ⟨cells, hc⟩ := hr.typed hi hv
    exact (Array.getElem?_eq_some_iff.1 hc).1
theorem Held.mine_lt {w : World} {g k : Nat} {s : St} (h : Held w g s) (hk : Mine w g k) : k < w.heap.size := by
  obtain ⟨vs, hb, hr⟩ := h
  rcases (mine_of hb).1 hk with rfl | ⟨i, hi, hv⟩
  · exact hb.lt
  · obtain ⟨cells, hc⟩ := hr.typed hi hv
    exact (Array.getElem?_eq_some_iff.1 hc).1
theorem HeldA.keep {w w1 : World} {g : Nat} {L : Nat → List ByteArray} (h : HeldA w g L) (hm : ∀ k, k < w.heap.size → Mine w g k → w1.heap[k]? = w.heap[k]?) : HeldA w1 g L := by
  have hlt := fun k => h.mine_lt (k := k)
  obtain ⟨vs, hb, hr⟩ := h
  exact ⟨vs, (hm g hb.lt (.inl rfl)).trans hb, hr.move fun k b hk hv => hm b (hlt b ((mine_arr hb).2 (.inr ⟨k, hk, hv⟩))) ((mine_arr hb).2 (.inr ⟨k, hk, hv⟩))⟩
theorem Mine.keepA {w w1 : World} {g : Nat} {L : Nat → List ByteArray} (h : HeldA w g L) (hm : w1.heap[g]? = w.heap[g]?) (k : Nat) : Mine w1 g k ↔ Mine w g k := by
  obtain ⟨vs, hb, hr⟩ := h
  rw [mine_arr hb, mine_arr (w := w1) (hm.trans hb)]
/-- Two objects share no block. -/
def Apart (w : World) (g h : Nat) : Prop := ∀ k, Mine w g k → ¬ Mine w h k
theorem Apart.symm {w : World} {g h : Nat} (ha : Apart w g h) : Apart w h g := fun k h1 h2 => ha k h2 h1
theorem newA {w : World} {g : Nat} (h : Blk w g 36 #[.slice none 0 0, .slice none 0 0, .slice none 0 0, .slice none 0 0]) : HeldA w g (fun _ => []) ∧ ∀ k, Mine w g k → k = g := by
  have hb : Blk w g 36 (arrOf (fun _ => .slice none 0 0)) := h
  refine ⟨⟨fun _ => .slice none 0 0, hb, ⟨fun k _ => q_of_own (own_nil w 0 9 1), fun j k _ _ _ b hb => by simp [Value.ownBlock] at hb⟩⟩, fun k hk => ?_⟩
  rcases (mine_arr hb).1 hk with h | ⟨i, _, hi⟩
  · exact h
  · simp [Value.ownBlock] at hi
/-- A row of such an array has become another one, and is stored. -/
theorem putA_done {w w1 w2 : World} {g : Nat} {vs : Nat → Value} {L : Nat → List ByteArray} (hb : Blk w g 36 (arrOf vs)) (hr : Lies w vs L) {j : Nat} (hj : j < 4) {v' : Value} {xs : List ByteArray}
    (hq : QRow w1 0 9 1 v' xs.length (strs xs)) (hg : w.grownBy w1 (vs j).ownBlock) (hat : v'.ownBlock = (vs j).ownBlock ∨ ∃ b, v'.ownBlock = some b ∧ w.heap.size ≤ b)
    (hb2 : Blk w2 g 36 (arrOf (upd vs j v'))) (hu : Upon (· = g) w1 w2) : HeldA w2 g (upd L j xs) ∧ Turns w w2 g := by
  have hl := hr.put hj hq hg hat
  have hgj : (vs j).ownBlock ≠ some g := by
    intro he
    obtain ⟨cells, hc⟩ := hr.typed hj he
    unfold Blk at hb
    rw [hb] at hc
    injection hc with hc
    injection hc with _ ht
    exact absurd ht (by decide)
  have hb1 : Blk w1 g 36 (arrOf vs) := blk_grown hg hb hgj
  have hne : ∀ k b, k < 4 → (upd vs j v' k).ownBlock = some b → b ≠ g ∧ b < w1.heap.size := by
    intro k b hk hbk
    obtain ⟨cells, hc⟩ := hl.typed hk hbk
    refine ⟨?_, (Array.getElem?_eq_some_iff.1 hc).1⟩
    rintro rfl
    unfold Blk at hb1
    rw [hb1] at hc
    injection hc with hc
    injection hc with _ ht
    exact absurd ht (by decide)
  refine ⟨⟨_, hb2, hl.move fun k b hk hbk => hu.block b (hne k b hk hbk).2 (hne k b hk hbk).1⟩, ?_, ?_⟩
  · refine (Upon.of_grown (S := Mine w g) hg fun k hk => (mine_arr hb).2 (.inr ⟨j, hj, hk⟩)).trans' hu fun i hi => .inl (by subst hi; exact .inl rfl)
  · intro k hk
    rcases (mine_arr hb2).1 hk with h | ⟨i, hi, hv⟩
    · exact .inl (.inl h)
    · by_cases hij : i = j
      · subst hij
        rw [upd_same] at hv
        rcases hat with hat | ⟨b, hb', hle⟩
        · exact .inl ((mine_arr hb).2 (.inr ⟨i, hi, by rw [← hat]; exact hv⟩))
        · rw [hb'] at hv
          injection hv with hv
          subst hv
          exact .inr hle
      · rw [upd_ne _ _ hij] at hv
        exact .inl ((mine_arr hb).2 (.inr ⟨i, hi, hv⟩))
end Go.Proofs.Ytjhpeelgehchiaa
