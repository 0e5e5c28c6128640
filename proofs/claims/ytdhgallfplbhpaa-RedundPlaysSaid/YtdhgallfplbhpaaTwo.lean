/- The filter and the document's, side by side, holding the same. Conditions: plain lemmas. -/
import Derived.Test.YtdhgallfplbhpaaRefU
import Derived.Test.YtdhgallfplbhpaaDec
namespace Go.Proofs.Ytdhgallfplbhpaa
open Go.RowKit Go.Proofs.YtdhgallfplbhpaaW.PrintWords
set_option linter.unusedVariables false
theorem In.turn {w0 W W' : World} {g h n : Nat} {s : FS} (hi : In w0 W g s n) (t : Turns W W' h) (ap : Apart W h g) (hm : ∀ k, Mine W h k → w0.heap.size ≤ k) : In w0 W' g s n := by
  have hs := still2 t ap
  have hg : W'.heap[g]? = W.heap[g]? := hs g hi.held.lt (.inl rfl)
  exact ⟨hi.held.keep hs, hi.below.trans (t.upon.below hi.below.size hm), fun k hk => hi.mine k ((mine_same hg k).1 hk), hi.ok, hi.up⟩
structure Two (w0 W : World) (g h : Nat) (s : FS) (n : Nat) : Prop where
  i : In w0 W g s n
  r : Held KR W h s
  ap : Apart W g h
  mr : ∀ k, Mine W h k → w0.heap.size ≤ k
  so : s.sorted
/-- The one has moved, the other not yet. -/
structure Half (w0 W : World) (g h : Nat) (s' s : FS) (n : Nat) : Prop where
  i : In w0 W g s' n
  r : Held KR W h s
  ap : Apart W g h
  mr : ∀ k, Mine W h k → w0.heap.size ≤ k
theorem Two.next {w0 W W' : World} {g h n : Nat} {s : FS} (t : Two w0 W g h s n) (hb : Below W.heap.size W W') : Two w0 W' g h s n := by
  have e0 := hb.block g t.i.held.lt
  have e1 := hb.block h t.r.lt
  exact ⟨t.i.next hb, t.r.keep fun k hk _ => hb.block k hk, apart_keep e0 e1 t.ap, fun k hk => t.mr k ((mine_same e1 k).1 hk), t.so⟩
theorem Two.drewN {w0 W : World} {g h n : Nat} {s : FS} (t : Two w0 W g h s n) (k : Nat) : Two w0 (W.drewN k) g h s n := t.next (below_drewN (Below.refl _ _) k)
theorem Two.move {w0 W W' : World} {g h n m : Nat} {s s' : FS} (t : Two w0 W g h s n) (hp : PutPost KI W g s' W') (hk : s'.ok) (hu : s'.upto m) : Half w0 W' g h s' s m := by
  have s1 := still2 hp.2 t.ap
  have e1 := s1 h t.r.lt (.inl rfl)
  exact ⟨t.i.step hp hk hu, t.r.keep s1, apart_turn2 hp.2 t.r.owns t.ap, fun k hm => t.mr k ((mine_same e1 k).1 hm)⟩
theorem Half.ref {w0 W W' : World} {g h n : Nat} {s s' : FS} (t : Half w0 W g h s' s n) (hp : PutPost KR W h s' W') (so : s'.sorted) : Two w0 W' g h s' n := by
  have s1 := still2 hp.2 t.ap.symm
  exact ⟨t.i.turn hp.2 t.ap.symm t.mr, hp.1, (apart_turn2 hp.2 t.i.held.owns t.ap.symm).symm, mine_up t.i.below.size hp.2 t.mr, so⟩
theorem Two.more {w0 W : World} {g h n m : Nat} {s : FS} (t : Two w0 W g h s n) (hm : n ≤ m) : Two w0 W g h s m :=
  ⟨⟨t.i.held, t.i.below, t.i.mine, t.i.ok, ⟨⟨t.i.up.t.1, by have := t.i.up.t; omega⟩, ⟨t.i.up.w.1, by have := t.i.up.w; omega⟩, ⟨t.i.up.o.1, by have := t.i.up.o; omega⟩⟩⟩, t.r, t.ap, t.mr, t.so⟩
theorem two_new {w0 w1 w2 : World} {k : Int} (hk : 0 ≤ k ∧ k ≤ 1073741824) (H : In w0 w1 w0.heap.size (FS.fresh k) 0) (hmi : ∀ j, Mine w1 w0.heap.size j → j = w0.heap.size) (hr : Held KR w2 w1.heap.size (FS.fresh k)) (hmr : ∀ j, Mine w2 w1.heap.size j → j = w1.heap.size) (hb : Below w1.heap.size w1 w2) :
    Two w0 w2 w0.heap.size w1.heap.size (FS.fresh k) 0 := by
  have hlt := H.held.lt
  refine ⟨H.next hb, hr, fun j h1 h2 => ?_, fun j hj => by rw [hmr j hj]; exact H.below.size, List.Pairwise.nil⟩
  have e1 := hmi j ((mine_same (hb.block _ hlt) j).1 h1)
  have e2 := hmr j h2
  omega
theorem Held.not_box {K : Kd} {w : World} {g b : Nat} {s : FS} {cs : Array Value} (h : Held K w g s) (hT : K.T ≠ 47) (hE : K.E ≠ 47) (hb : Blk w b 47 cs) : ¬ Mine w g b := by
  obtain ⟨v, h1, h2⟩ := h
  intro hm
  unfold Blk at hb h1
  rcases (mine_of h1).1 hm with rfl | hv
  · rw [hb] at h1
    injection h1 with h1
    injection h1 with _ ht
    exact hT ht.symm
  · obtain ⟨_, cells, hc⟩ := q_typed h2 b hv
    rw [hb] at hc
    injection hc with hc
    injection hc with _ ht
    exact hE ht.symm
theorem box_put {K : Kd} {w w' : World} {g b : Nat} {s s' : FS} {cs : Array Value} (h : Held K w g s) (hT : K.T ≠ 47) (hE : K.E ≠ 47) (hb : Blk w b 47 cs) (hp : PutPost K w g s' w') : Blk w' b 47 cs :=
  (hp.2.upon.block b hb.lt (h.not_box hT hE hb)).trans hb
end Go.Proofs.Ytdhgallfplbhpaa
