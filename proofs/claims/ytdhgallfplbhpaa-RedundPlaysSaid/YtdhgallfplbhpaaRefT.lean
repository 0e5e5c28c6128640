/- What Take of the document's filter answers and leaves. Conditions: the filter lies; its frames lie by their ticks; its counts are small. -/
import Derived.Test.YtdhgallfplbhpaaRefF
namespace Go.Proofs.Ytdhgallfplbhpaa
open Go.RowKit Go.Proofs.YtdhgallfplbhpaaW.PrintWords
set_option linter.unusedVariables false

/-- The frames lie in the order in which they came. -/
def FS.sorted (s : FS) : Prop := s.l.Pairwise fun a b => a.tick ≤ b.tick
theorem filter_sorted {k now : Int} : ∀ {l : List Fr}, l.Pairwise (fun a b => a.tick ≤ b.tick) → l.filter (fun f => decide (now - f.tick ≤ k)) = l.dropWhile (fun f => decide (k < now - f.tick))
  | [], _ => rfl
  | f :: l, h => by
    have h2 := List.pairwise_cons.1 h
    by_cases hf : k < now - f.tick
    · rw [List.dropWhile_cons, if_pos (decide_eq_true hf), List.filter_cons, if_neg (by simp; omega)]
      exact filter_sorted h2.2
    · rw [List.dropWhile_cons, if_neg (by simp; omega), List.filter_eq_self.2]
      intro f' hf'
      rcases List.mem_cons.1 hf' with rfl | hf'
      · exact decide_eq_true (by omega)
      · have := h2.1 f' hf'
        exact decide_eq_true (by omega)
theorem forget_filter {s : FS} (h : s.sorted) (now : Int) : ({ s with l := s.l.filter (s.keeps now), now := now } : FS) = s.forget now := by
  have : s.l.filter (s.keeps now) = s.l.dropWhile (s.late now) := filter_sorted h
  rw [this]
  rfl
/-- A cell of a frame becomes another one. -/
theorem Held.elem {K : Kd} {w : World} {g : Nat} {s : FS} {b off n c i j : Nat} {f f' : Fr} {u : Value} (H : Held K w g s) (h0 : w.cell? ⟨g, 0, none⟩ = some (.slice (some ⟨b, off, none⟩) n c)) (hf : s.l[i]? = some f) (hj : j < K.sz) (he : (K.enc f).set j u = K.enc f') :
    PutPost K w g { s with l := s.l.set i f' } (w.setCell ⟨b, off + i * K.sz + j, none⟩ u) ∧ b ≠ g ∧ ∀ o, w.frozen? ⟨b, o, none⟩ = false := by
  have hi : i < s.l.length := (List.getElem?_eq_some_iff.1 hf).1
  obtain ⟨v, hb, hq⟩ := H
  have hv : v = .slice (some ⟨b, off, none⟩) n c := by
    have := hb.cell 0
    rw [h0] at this
    simpa [FS.cells] using this.symm
  subst hv
  have hne : (Value.slice (some ⟨b, off, none⟩) n c).ownBlock ≠ some g := Held.ne hb hq
  have hbg : b ≠ g := fun e => hne (by simp [Value.ownBlock, e])
  obtain ⟨A, c', he', hnc⟩ := q_slice hq
  injection he' with e1 e2 e3
  subst e2
  have hb2 := hb.far (p := ⟨b, off + i * K.sz + j, none⟩) (fun e => hbg e.symm) u
  have hlt : i * K.sz + j < s.l.length * K.sz := by
    have : (i + 1) * K.sz ≤ s.l.length * K.sz := Nat.mul_le_mul_right _ hi
    rw [Nat.add_mul] at this
    omega
  have hset := q_set hq (j := i * K.sz + j) hlt u
  rw [encs_set s.l i f f' j u hf hj he, show off + (i * K.sz + j) = off + i * K.sz + j by omega] at hset
  have hl : (s.l.set i f').length = s.l.length := List.length_set
  refine ⟨⟨⟨_, hb2, by show QRow _ 0 K.E K.sz _ (s.l.set i f').length _; rw [hl]; exact hset⟩, ?_, fun j hj => .inl ((mine_same ?_ j).1 hj)⟩, hbg, fun o => ?_⟩
  · exact (Upon.refl (Mine w g) w).set ⟨b, off + i * K.sz + j, none⟩ _ (.inl ((mine_of hb).2 (.inr (by simp [Value.ownBlock]))))
  · rw [show w.heap[g]? = some _ from hb]
    exact hb2
  · obtain ⟨_, cells, hc⟩ := q_typed hq b (by simp [Value.ownBlock])
    have hc' : Blk w b K.E cells := hc
    exact hc'.frozen o
/-- A frame of the document's filter is marked, in two steps. -/
theorem rmark {w : World} {g : Nat} {s : FS} {b off n c i : Nat} {f : Fr} (H : Held KR w g s) (h0 : w.cell? ⟨g, 0, none⟩ = some (.slice (some ⟨b, off, none⟩) n c)) (hf : s.l[i]? = some f) (hw : f.nets = 1 ∨ f.nets = 2) :
    PutPost KR w g { s with l := s.l.set i { f with nets := 3 } } ((w.setCell ⟨b, off + i * 4 + 2, none⟩ (.bool true)).setCell ⟨b, off + i * 4 + 3, none⟩ (.bool true)) := by
  have hi : i < s.l.length := (List.getElem?_eq_some_iff.1 hf).1
  rcases hw with hw | hw
  · obtain ⟨p1, hbg, _⟩ := H.elem (K := KR) (j := 2) (f' := f) (u := .bool true) h0 hf (by decide) (by show [_, _, _, _].set 2 _ = [_, _, _, _]; simp [Fr.onA, hw])
    have h0' : (w.setCell ⟨b, off + i * 4 + 2, none⟩ (.bool true)).cell? ⟨g, 0, none⟩ = some (.slice (some ⟨b, off, none⟩) n c) := by
      have : (w.setCell ⟨b, off + i * 4 + 2, none⟩ (.bool true)).heap[g]? = w.heap[g]? := Below.heap_setCell _ _ _ _ (fun e => hbg e.symm)
      exact (World.cell?_of_block this).trans h0
    have hs : (s.l.set i f) = s.l := by
      rw [show f = s.l[i] from ((List.getElem?_eq_some_iff.1 hf).2).symm]
      simp
    rw [hs] at p1
    obtain ⟨p2, _, _⟩ := p1.1.elem (K := KR) (j := 3) (f' := { f with nets := 3 }) (u := .bool true) h0' hf (by decide) (by show [_, _, _, _].set 3 _ = [_, _, _, _]; simp [Fr.onA, Fr.onB, hw])
    exact p1.trans p2
  · obtain ⟨p1, hbg, _⟩ := H.elem (K := KR) (j := 2) (f' := { f with nets := 3 }) (u := .bool true) h0 hf (by decide) (by show [_, _, _, _].set 2 _ = [_, _, _, _]; simp [Fr.onA, Fr.onB, hw])
    have h0' : (w.setCell ⟨b, off + i * 4 + 2, none⟩ (.bool true)).cell? ⟨g, 0, none⟩ = some (.slice (some ⟨b, off, none⟩) n c) := by
      have : (w.setCell ⟨b, off + i * 4 + 2, none⟩ (.bool true)).heap[g]? = w.heap[g]? := Below.heap_setCell _ _ _ _ (fun e => hbg e.symm)
      exact (World.cell?_of_block this).trans h0
    have hf2 : (s.l.set i { f with nets := 3 })[i]? = some { f with nets := 3 } := by rw [List.getElem?_set_self hi]
    obtain ⟨p2, _, _⟩ := p1.1.elem (K := KR) (j := 3) (f' := { f with nets := 3 }) (u := .bool true) h0' hf2 (by decide) (by show [_, _, _, _].set 3 _ = [_, _, _, _]; simp [Fr.onA, Fr.onB])
    have hs : ((s.l.set i { f with nets := 3 }).set i { f with nets := 3 }) = s.l.set i { f with nets := 3 } := by simp
    have := p1.trans p2
    simp only [hs] at this
    exact this
end Go.Proofs.Ytdhgallfplbhpaa
