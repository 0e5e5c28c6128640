/- The chapter's example comes out as told; a filter that a statement has made. Conditions: none. -/
import Derived.Test.YtdhgallfplbhpaaTakW
namespace Go.Proofs.Ytdhgallfplbhpaa
open Go.RowKit Go.Proofs.YtdhgallfplbhpaaW.PrintWords
set_option linter.unusedVariables false

structure FS.upto (s : FS) (n : Nat) : Prop where
  t : 0 ≤ s.thr ∧ s.thr ≤ n
  w : 0 ≤ s.twi ∧ s.twi ≤ n
  o : 0 ≤ s.old ∧ s.old ≤ n
theorem FS.upto.cap {s : FS} {n : Nat} (h : s.upto n) (hn : n ≤ 1000000) : s.cap := ⟨⟨h.t.1, by have := h.t; omega⟩, ⟨h.w.1, by have := h.w; omega⟩, ⟨h.o.1, by have := h.o; omega⟩⟩
theorem take_upto {s : FS} {n : Nat} (h : s.upto n) (now net seq : Int) : (s.take now net seq).2.upto (n + 1) := by
  have h1 := h.t
  have h2 := h.w
  have h3 := h.o
  unfold FS.take
  split
  · unfold FS.judge
    split
    · exact ⟨⟨h1.1, by show s.thr ≤ _; omega⟩, ⟨by show 0 ≤ s.twi + 1; omega, by show s.twi + 1 ≤ _; omega⟩, ⟨h3.1, by show s.old ≤ _; omega⟩⟩
    · split
      · exact ⟨⟨h1.1, by show s.thr ≤ _; omega⟩, ⟨h2.1, by show s.twi ≤ _; omega⟩, ⟨by show 0 ≤ s.old + 1; omega, by show s.old + 1 ≤ _; omega⟩⟩
      · split
        · exact ⟨⟨h1.1, by show s.thr ≤ _; omega⟩, ⟨h2.1, by show s.twi ≤ _; omega⟩, ⟨by show 0 ≤ s.old + 1; omega, by show s.old + 1 ≤ _; omega⟩⟩
        · have e1 : (FS.put (s.forget now) now net seq).thr = s.thr + 1 := by simp only [FS.put, FS.forget]
          have e2 : (FS.put (s.forget now) now net seq).twi = s.twi := by simp only [FS.put, FS.forget]
          have e3 : (FS.put (s.forget now) now net seq).old = s.old := by simp only [FS.put, FS.forget]
          exact ⟨⟨by rw [e1]; omega, by rw [e1]; omega⟩, ⟨by rw [e2]; omega, by rw [e2]; omega⟩, ⟨by rw [e3]; omega, by rw [e3]; omega⟩⟩
  · exact ⟨⟨h1.1, by show s.thr ≤ _; omega⟩, ⟨h2.1, by show s.twi ≤ _; omega⟩, ⟨h3.1, by show s.old ≤ _; omega⟩⟩
/-- A filter that a statement has made, and what it has left else. -/
structure In (w0 W : World) (g : Nat) (s : FS) (n : Nat) : Prop where
  held : Held KI W g s
  below : Below w0.heap.size w0 W
  mine : ∀ k, Mine W g k → w0.heap.size ≤ k
  ok : s.ok
  up : s.upto n
theorem In.next {w0 W W' : World} {g n : Nat} {s : FS} (h : In w0 W g s n) (hb : Below W.heap.size W W') : In w0 W' g s n := by
  have hg : W'.heap[g]? = W.heap[g]? := hb.block g h.held.lt
  exact ⟨h.held.keep fun k hk _ => hb.block k hk, below_then h.below h.below.size hb, fun k hm => h.mine k ((mine_same hg k).1 hm), h.ok, h.up⟩
theorem In.drewN {w0 W : World} {g n : Nat} {s : FS} (h : In w0 W g s n) (k : Nat) : In w0 (W.drewN k) g s n := h.next (below_drewN (Below.refl _ _) k)
theorem In.alloc {w0 W : World} {g n : Nat} {s : FS} (h : In w0 W g s n) (o : Obj) : In w0 (W.alloc o) g s n := h.next ((Below.refl _ _).alloc (Nat.le_refl _) o)
theorem In.step {w0 W W' : World} {g n m : Nat} {s s' : FS} (h : In w0 W g s n) (hp : PutPost KI W g s' W') (hk : s'.ok) (hu : s'.upto m) : In w0 W' g s' m :=
  ⟨hp.1, h.below.trans (hp.2.upon.below h.below.size h.mine), mine_up h.below.size hp.2 h.mine, hk, hu⟩
theorem fresh_upto (k : Int) : (FS.fresh k).upto 0 := ⟨⟨by simp [FS.fresh], by simp [FS.fresh]⟩, ⟨by simp [FS.fresh], by simp [FS.fresh]⟩, ⟨by simp [FS.fresh], by simp [FS.fresh]⟩⟩
theorem In.first {w0 W : World} {k : Int} (h : 0 ≤ k ∧ k ≤ 1073741824) (hh : Held KI W w0.heap.size (FS.fresh k)) (hm : ∀ j, Mine W w0.heap.size j → j = w0.heap.size) (hb : Below w0.heap.size w0 W) : In w0 W w0.heap.size (FS.fresh k) 0 :=
  ⟨hh, hb, fun k hk => by rw [hm k hk]; exact Nat.le_refl _, fresh_ok h, fresh_upto k⟩
theorem in_take {w0 W : World} {g n : Nat} {s : FS} (H : In w0 W g s n) (hn : n ≤ 1000000) (now net seq : Int) :
    Calls Try.prog 11 #[.pointer (some ⟨g, 0, none⟩), .int .i64 now, .int .i64 net, .int .i64 seq] W fun e w' => e = .returned (.int .i64 (s.take now net seq).1) ∧ In w0 w' g (s.take now net seq).2 (n + 1) := by
  refine (take_calls g s now net seq W H.held H.ok (H.up.cap hn)).mono ?_
  rintro e w' ⟨rfl, hp⟩
  exact ⟨rfl, H.step hp (take_ok H.ok _ _ _) (take_upto H.up _ _ _)⟩
theorem in_reset {w0 W : World} {g n : Nat} {s : FS} (H : In w0 W g s n) :
    Calls Try.prog 18 #[.pointer (some ⟨g, 0, none⟩)] W fun e w' => e = .returned (.tuple #[]) ∧ In w0 w' g s.reset n := by
  refine (reset_calls g s W H.held).mono ?_
  rintro e w' ⟨rfl, hp⟩
  exact ⟨rfl, H.step hp (reset_ok H.ok) ⟨H.up.t, H.up.w, H.up.o⟩⟩
def e1 : FS := ⟨[⟨0, 0, 1⟩], 10, 0, 1, 0, 0⟩
def e2 : FS := ⟨[⟨0, 0, 3⟩], 10, 5, 1, 1, 0⟩
def e3 : FS := ⟨[⟨0, 0, 3⟩, ⟨1, 6, 2⟩], 10, 6, 2, 1, 0⟩
def e4 : FS := ⟨[⟨0, 0, 3⟩, ⟨1, 6, 2⟩], 10, 7, 2, 1, 1⟩
def e5 : FS := ⟨[⟨0, 0, 3⟩, ⟨1, 6, 3⟩], 10, 8, 2, 2, 1⟩
theorem t1 : (FS.fresh 10).take 0 0 0 = (0, e1) := by kernel_rfl
theorem t2 : e1.take 5 1 0 = (21, e2) := by kernel_rfl
theorem t3 : e2.take 6 1 1 = (0, e3) := by kernel_rfl
theorem t4 : e3.take 7 0 0 = (25, e4) := by kernel_rfl
theorem t5 : e4.take 8 0 1 = (21, e5) := by kernel_rfl
set_option maxHeartbeats 2000000 in
theorem awake_calls (w : World) : Calls Try.prog 10 #[] w fun e w' => e = .returned (.bool true) ∧ Below w.heap.size w w' := by
  go_enter Try.func10, Try.ntmps10
  go_wp2_with fail
  refine (new_ok 10 _ (by omega)).mono ?_
  rintro e w1 ⟨rfl, hh, hm, hb⟩
  have H := Aside.mk (In.first (by omega) hh hm hb)
  clear hh hm hb
  go_wp2_with fail
  refine (in_take H.out (by omega) 0 0 0).mono ?_
  rintro e w2 ⟨rfl, hp⟩
  rw [t1] at hp ⊢
  have H2 := Aside.mk hp
  clear hp H
  go_wp2_with fail
  refine (in_take H2.out (by omega) 5 1 0).mono ?_
  rintro e w3 ⟨rfl, hp⟩
  rw [t2] at hp ⊢
  have H3 := Aside.mk hp
  clear hp H2
  go_wp2_with fail
  refine (in_take H3.out (by omega) 6 1 1).mono ?_
  rintro e w4 ⟨rfl, hp⟩
  rw [t3] at hp ⊢
  have H4 := Aside.mk hp
  clear hp H3
  go_wp2_with fail
  refine (in_take H4.out (by omega) 7 0 0).mono ?_
  rintro e w5 ⟨rfl, hp⟩
  rw [t4] at hp ⊢
  have H5 := Aside.mk hp
  clear hp H4
  go_wp2_with fail
  refine (in_take H5.out (by omega) 8 0 1).mono ?_
  rintro e w6 ⟨rfl, hp⟩
  rw [t5] at hp ⊢
  have H6 := Aside.mk hp
  clear hp H5
  go_wp2
  go_ret
  exact ⟨rfl, H6.out.below⟩
end Go.Proofs.Ytdhgallfplbhpaa
