/- The chapter's example, as the statements call it: it answers true. Conditions: none. -/
import Derived.Test.YtkckfghmdkeobaaTake
namespace Go.Proofs.Ytkckfghmdkeobaa
open Go.RowKit
set_option linter.unusedVariables false
/-- The account, and how many frames at most were counted. -/
structure At (w : World) (g : Nat) (wr : World) (s : Acc) (n : Int) : Prop where
  blk : Blk wr g 55 s.cells
  ok : s.ok
  passed : s.passed ≤ n
  dropped : s.dropped ≤ n
  below : Below w.heap.size w wr
theorem At.new {w w1 : World} {g : Nat} {r : Rul} (h : r.ok) (hb : Blk w1 g 55 (Acc.new r).cells) (hu : Below w.heap.size w w1) : At w g w1 (Acc.new r) 0 := ⟨hb, Acc.new_ok h, by simp [Acc.new], by simp [Acc.new], hu⟩
theorem At.upon {w wr w1 : World} {g : Nat} {s s1 : Acc} {n : Int} (h : At w g wr s n) (hg : w.heap.size ≤ g) (hb : Blk w1 g 55 s1.cells) (ok : s1.ok) (hp : s1.passed ≤ s.passed + 1) (hd : s1.dropped ≤ s.dropped + 1) (hu : Upon (· = g) wr w1) : At w g w1 s1 (n + 1) :=
  ⟨hb, ok, by have := h.passed; omega, by have := h.dropped; omega, h.below.trans (Upon.below (B := w.heap.size) hu (by exact h.below.size) (fun i hi => by omega))⟩
theorem At.then {w wr w1 : World} {g : Nat} {s : Acc} {n : Int} (h : At w g wr s n) (hu : Below wr.heap.size wr w1) : At w g w1 s n := ⟨h.blk.below hu, h.ok, h.passed, h.dropped, below_then h.below h.below.size hu⟩
theorem At.drewN {w wr : World} {g : Nat} {s : Acc} {n : Int} (h : At w g wr s n) (m : Nat) : At w g (wr.drewN m) s n := ⟨h.blk, h.ok, h.passed, h.dropped, below_drewN h.below m⟩
theorem At.mono {w wr : World} {g : Nat} {s : Acc} {n m : Int} (h : At w g wr s n) (hm : n ≤ m) : At w g wr s m := ⟨h.blk, h.ok, by have := h.passed; omega, by have := h.dropped; omega, h.below⟩
theorem take_at {w : World} {g : Nat} (wr : World) {s : Acc} {k : Int} (now n : Int) (h : At w g wr s k) (hg : w.heap.size ≤ g) (hk : k ≤ 1125899906842624) : Calls Try.prog 14 #[.pointer (some ⟨g, 0, none⟩), .int .i64 now, .int .i64 n] wr fun e w' => e = .returned (.int .i64 (s.err now n)) ∧ At w g w' (s.take now n) (k + 1) :=
  (take_calls g s now n wr h.blk h.ok (by have := h.passed; omega) (by have := h.dropped; omega)).mono fun _ _ ⟨he, hb, hu⟩ => ⟨he, h.upon hg hb (Acc.take_ok h.ok now n) (s.take_cnt now n).1 (s.take_cnt now n).2.1 hu⟩
def r0 : Rul := ⟨100, 0, 0, false⟩
theorem r0_ok : r0.ok := Rul.ok_of (by decide)
def a1 : Acc := (Acc.new r0).take 0 100
def a2 : Acc := a1.take 12499 100
theorem aw : (Acc.new r0).err 0 100 = 0 ∧ a1.err 12499 100 = 26 ∧ a2.err 12500 100 = 0 := by decide
set_option maxRecDepth 100000 in
set_option maxHeartbeats 1000000 in
theorem awake_calls (w : World) : Calls Try.prog 11 #[] w fun e w' => e = .returned (.bool true) ∧ Below w.heap.size w w' := by
  have AW := Aside.mk aw
  go_enter Try.func11, Try.ntmps11
  go_wp2_with fail
  refine (new_yes r0 _ r0_ok).mono ?_
  rintro e w1 ⟨g, rfl, hg, hb, hu⟩
  have H0 := Aside.mk (At.new r0_ok hb hu)
  have HG := Aside.mk hg
  clear hb hu hg
  go_wp2_with fail
  refine (take_at _ 0 100 H0.out HG.out (by decide)).mono ?_
  rintro e w2 ⟨rfl, h⟩
  rw [AW.out.1]
  have H1 : Aside (At w g w2 a1 1) := ⟨h⟩
  clear h
  go_wp2_with fail
  refine (take_at _ 12499 100 H1.out HG.out (by decide)).mono ?_
  rintro e w3 ⟨rfl, h⟩
  rw [AW.out.2.1]
  have H2 : Aside (At w g w3 a2 2) := ⟨h⟩
  clear h
  go_wp2_with fail
  refine (take_at _ 12500 100 H2.out HG.out (by decide)).mono ?_
  rintro e w4 ⟨rfl, h⟩
  rw [AW.out.2.2]
  have H3 := Aside.mk h
  clear h
  go_wp2
  go_ret
  exact ⟨rfl, H3.out.below⟩
set_option maxHeartbeats 400000 in
theorem policeNil_walk (now n : Int) (w : World) (_ : -9223372036854775808 ≤ now ∧ now ≤ 9223372036854775807) (_ : -9223372036854775808 ≤ n ∧ n ≤ 9223372036854775807) : Calls Try.prog 6 #[.int .i64 now, .int .i64 n] w fun e w' => e = .returned (.bool true) ∧ Below w.heap.size w w' := by
  go_enter Try.func6, Try.ntmps6
  go_wp2_with (first | (go_at_call 19; refine (passed_nil _).mono ?_; rintro e w' ⟨rfl, rfl⟩) | (go_at_call 14; refine (take_nil _ _ _).mono ?_; rintro e w' ⟨rfl, rfl⟩) | (go_at_call 15; refine (credit_nil _ _).mono ?_; rintro e w' ⟨rfl, rfl⟩) | (go_at_call 11; refine (awake_calls _).mono ?_; rintro e w' ⟨rfl, hb⟩))
  go_ret
  exact ⟨rfl, by assumption⟩
end Go.Proofs.Ytkckfghmdkeobaa
