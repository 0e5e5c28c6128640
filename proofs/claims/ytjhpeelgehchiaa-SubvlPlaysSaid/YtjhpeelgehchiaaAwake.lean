/- The chapter's example comes out as told. Conditions: none. -/
import Derived.Test.YtjhpeelgehchiaaClear
namespace Go.Proofs.Ytjhpeelgehchiaa
open Go.RowKit Go.Proofs.YtjhpeelgehchiaaW.PrintWords
set_option linter.unusedVariables false

/-- Queues that a statement has made, and what it has left else. -/
structure In (w0 W : World) (g : Nat) (s : St) : Prop where
  held : Held W g s
  below : Below w0.heap.size w0 W
  mine : ∀ k, Mine W g k → w0.heap.size ≤ k
  ok : s.ok
theorem In.step {w0 W W' : World} {g : Nat} {s s' : St} (h : In w0 W g s) (hp : PutPost W g s' W') (hk : s'.ok) : In w0 W' g s' :=
  ⟨hp.1, h.below.trans (hp.2.upon.below h.below.size h.mine), fun k hm => by
    rcases hp.2.mine k hm with h1 | h1
    · exact h.mine k h1
    · exact Nat.le_trans h.below.size h1, hk⟩
theorem In.next {w0 W W' : World} {g : Nat} {s : St} (h : In w0 W g s) (hb : Below W.heap.size W W') : In w0 W' g s := by
  have hg : W'.heap[g]? = W.heap[g]? := hb.block g h.held.lt
  refine ⟨h.held.keep fun k hk _ => hb.block k hk, below_then h.below h.below.size hb, fun k hm => h.mine k ((Mine.keep h.held hg k).1 hm), h.ok⟩
theorem In.drewN {w0 W : World} {g : Nat} {s : St} (h : In w0 W g s) (n : Nat) : In w0 (W.drewN n) g s := h.next (below_drewN (Below.refl _ _) n)
theorem In.alloc {w0 W : World} {g : Nat} {s : St} (h : In w0 W g s) (o : Obj) : In w0 (W.alloc o) g s := h.next ((Below.refl _ _).alloc (Nat.le_refl _) o)
theorem In.first {w0 W : World} {m d : Nat} (h : 1 ≤ m ∧ m ≤ 4 ∧ 1 ≤ d ∧ d ≤ 1024) (hh : Held W w0.heap.size (St.fresh m d)) (hm : ∀ k, Mine W w0.heap.size k → k = w0.heap.size) (hb : Below w0.heap.size w0 W) : In w0 W w0.heap.size (St.fresh m d) :=
  ⟨hh, hb, fun k hk => by rw [hm k hk]; exact Nat.le_refl _, St.fresh_ok h⟩
theorem src_new (w : World) (ys : List ByteArray) : Src (w.alloc (.cells (strs ys).toArray 9)) (some ⟨w.heap.size, 0, none⟩) ys.length ys :=
  ⟨rfl, fun _ => ⟨_, rfl, by simpa using World.news_of_block (cs := (strs ys).toArray) (t := 9) (fr := (0, 0)) (heap_alloc_new w (.cells (strs ys).toArray 9))⟩⟩

def tA : ByteArray := ⟨#[97]⟩
def tB : ByteArray := ⟨#[98]⟩
def tC : ByteArray := ⟨#[99]⟩
def a1 : St := (St.fresh 2 5).push 0 [tA, tB]
def a2 : St := a1.push 1 [tC]
theorem a1_ok : a1.ok := St.push_ok (St.fresh_ok (by omega)) (by decide) (by decide)
theorem a2_ok : a2.ok := St.push_ok a1_ok (by decide) (by decide)
theorem a2_next : a2.isNext 0 0 := ⟨by decide, by decide, by simp [a2, a1, St.push, upd, St.fresh], fun e he => absurd he (by omega)⟩
def a3 : St := a2.pop 0
theorem a3_ok : a3.ok := St.pop_ok a2_ok
theorem a3_next : a3.isNext 0 1 := ⟨by decide, by decide, by simp [a3, a2, a1, St.pop, St.push, upd, St.fresh], fun e he => absurd he (by omega)⟩
def a4 : St := a3.pop 1
theorem a4_ok : a4.ok := St.pop_ok a3_ok
theorem a4_next : a4.isNext 0 0 := ⟨by decide, by decide, by simp [a4, a3, a2, a1, St.pop, St.push, upd, St.fresh], fun e he => absurd he (by omega)⟩
set_option maxHeartbeats 2000000 in
theorem awake_calls (w : World) : Calls Try.prog 10 #[] w fun e w' => e = .returned (.bool true) ∧ Below w.heap.size w w' := by
  go_enter Try.func10, Try.ntmps10
  go_wp2_with fail
  refine (new_calls_ok 2 5 _ (by omega)).mono ?_
  rintro e w1 ⟨rfl, hh, hm, hb⟩
  have H := Aside.mk (In.first (by omega) hh hm hb)
  clear hh hm hb
  go_wp2_with fail
  have H1 := Aside.mk (H.out.alloc (.cells (strs [tA, tB]).toArray 9))
  have hs := src_new w1 [tA, tB]
  change Calls _ _ _ (w1.alloc (.cells (strs [tA, tB]).toArray 9)) _
  refine (push_fits _ _ 0 _ _ _ _ _ H1.out.held H1.out.ok (by decide) (by decide) hs).mono ?_
  rintro e w2 ⟨rfl, hp⟩
  have H2 : Aside (In w w2 w.heap.size a1) := ⟨H1.out.step hp a1_ok⟩
  clear hp H H1 hs
  go_wp2_with fail
  have H3 := Aside.mk (H2.out.alloc (.cells (strs [tC]).toArray 9))
  have hs := src_new w2 [tC]
  change Calls _ _ _ (w2.alloc (.cells (strs [tC]).toArray 9)) _
  refine (push_fits _ _ 1 _ _ _ _ _ H3.out.held H3.out.ok (by decide) (by decide) hs).mono ?_
  rintro e w3 ⟨rfl, hp⟩
  have H4 : Aside (In w w3 w.heap.size a2) := ⟨H3.out.step hp a2_ok⟩
  clear hp H2 H3 hs
  go_wp2_with fail
  refine (pop_calls _ _ _ _ tA [tB] _ H4.out.held H4.out.ok a2_next rfl).mono ?_
  rintro e w4 ⟨rfl, hp⟩
  have H5 : Aside (In w w4 w.heap.size a3) := ⟨H4.out.step hp a3_ok⟩
  clear hp H4
  go_wp2_with fail
  refine (pop_calls _ _ _ _ tC [] _ H5.out.held H5.out.ok a3_next rfl).mono ?_
  rintro e w5 ⟨rfl, hp⟩
  have H6 : Aside (In w w5 w.heap.size a4) := ⟨H5.out.step hp a4_ok⟩
  clear hp H5
  go_wp2_with fail
  refine (pop_calls _ _ _ _ tB [] _ H6.out.held H6.out.ok a4_next rfl).mono ?_
  rintro e w6 ⟨rfl, hp⟩
  have H7 := Aside.mk (H6.out.step hp (St.pop_ok H6.out.ok))
  clear hp H6
  unfold tA tB tC
  go_wp2
  go_ret
  exact ⟨rfl, H7.out.below⟩
end Go.Proofs.Ytjhpeelgehchiaa
