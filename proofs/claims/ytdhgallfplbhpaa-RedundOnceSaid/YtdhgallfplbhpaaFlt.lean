/- What the small functions of package redund answer and leave. Conditions: the filter lies. -/
import Derived.Test.YtdhgallfplbhpaaRed
import Derived.Test.YtdhgallfplbhpaaStep
namespace Go.Proofs.Ytdhgallfplbhpaa
open Go.RowKit Go.Proofs.YtdhgallfplbhpaaW.PrintWords
set_option linter.unusedVariables false

def KI : Kd where
  T := 54
  E := 60
  S := 52
  sz := 3
  bytes := 24
  enc f := [.int .i64 f.seq, .int .i64 f.tick, .int .u64 f.nets]
  zero := .agg #[.int .i64 0, .int .i64 0, .int .u64 0]
  len _ := rfl
  one f u h := by simp at h; rcases h with rfl | rfl | rfl <;> rfl
  ne := by decide
  pos := by decide
  under := by kernel_rfl
  info := by kernel_rfl
  zsz := rfl
  small := by decide
def FS.fresh (k : Int) : FS := ⟨[], k, 0, 0, 0, 0⟩
theorem new_ok (k : Int) (w : World) (h : 0 ≤ k ∧ k ≤ 1073741824) :
    Calls Try.prog 9 #[.int .i64 k] w fun e w' => e = .returned (.tuple #[.pointer (some ⟨w.heap.size, 0, none⟩), .int .i64 0]) ∧ Held KI w' w.heap.size (FS.fresh k) ∧ (∀ j, Mine w' w.heap.size j → j = w.heap.size) ∧ Below w.heap.size w w' := by
  have h1 : ¬ k < 0 := by omega
  have h2 : ¬ 1073741824 < k := by omega
  clear h
  go_enter Try.func9, Try.ntmps9
  go_wp2
  go_ret2
  have hb : Blk (w.alloc (.cells ((FS.fresh k).cells (.slice none 0 0)) 54)) w.heap.size 54 ((FS.fresh k).cells (.slice none 0 0)) := Blk.new _ _ _
  refine ⟨rfl, ⟨_, hb, q_of_own (own_nil _ 0 60 3)⟩, fun j hj => ?_, (Below.refl _ _).alloc (Nat.le_refl _) _⟩
  rcases (mine_of hb).1 hj with h | h
  · exact h
  · simp [Value.ownBlock] at h
theorem new_no (k : Int) (w : World) (h : ¬ (0 ≤ k ∧ k ≤ 1073741824)) : Calls Try.prog 9 #[.int .i64 k] w fun e w' => e = .returned (.tuple #[.pointer none, .int .i64 1]) ∧ w = w' := by
  have key : k < 0 ∨ (¬ k < 0 ∧ 1073741824 < k) := by omega
  clear h
  rcases key with h | ⟨h1, h⟩
  all_goals
    go_enter Try.func9, Try.ntmps9
    go_wp2
    go_ret2
    exact ⟨rfl, rfl⟩
/-! ### the counts -/
theorem held_nil (w : World) : Calls Try.prog 16 #[.pointer none] w fun e w' => e = .returned (.int .i64 0) ∧ w = w' := by
  go_enter Try.func16, Try.ntmps16
  go_wp2
  go_ret
  exact ⟨rfl, rfl⟩
theorem thr_nil (w : World) : Calls Try.prog 14 #[.pointer none] w fun e w' => e = .returned (.int .i64 0) ∧ w = w' := by
  go_enter Try.func14, Try.ntmps14
  go_wp2
  go_ret
  exact ⟨rfl, rfl⟩
theorem twi_nil (w : World) : Calls Try.prog 15 #[.pointer none] w fun e w' => e = .returned (.int .i64 0) ∧ w = w' := by
  go_enter Try.func15, Try.ntmps15
  go_wp2
  go_ret
  exact ⟨rfl, rfl⟩
theorem old_nil (w : World) : Calls Try.prog 21 #[.pointer none] w fun e w' => e = .returned (.int .i64 0) ∧ w = w' := by
  go_enter Try.func21, Try.ntmps21
  go_wp2
  go_ret
  exact ⟨rfl, rfl⟩
theorem reset_nil (w : World) : Calls Try.prog 18 #[.pointer none] w fun e w' => e = .returned (.tuple #[]) ∧ w = w' := by
  go_enter Try.func18, Try.ntmps18
  go_wp2
  go_end0
  exact ⟨rfl, rfl⟩
theorem held_calls (g : Nat) (s : FS) (w : World) (H : Held KI w g s) : Calls Try.prog 16 #[.pointer (some ⟨g, 0, none⟩)] w fun e w' => e = .returned (.int .i64 s.l.length) ∧ w = w' := by
  obtain ⟨A, c, h0, _⟩ := H.slice
  clear H
  go_enter Try.func16, Try.ntmps16
  go_wp2
  go_ret
  exact ⟨rfl, rfl⟩
theorem thr_calls (g : Nat) (s : FS) (w : World) (H : Held KI w g s) : Calls Try.prog 14 #[.pointer (some ⟨g, 0, none⟩)] w fun e w' => e = .returned (.int .i64 s.thr) ∧ w = w' := by
  obtain ⟨v, c0, c1, c2, c3, c4, c5⟩ := H.cells
  clear H
  go_enter Try.func14, Try.ntmps14
  go_wp2
  go_ret
  exact ⟨rfl, rfl⟩
theorem twi_calls (g : Nat) (s : FS) (w : World) (H : Held KI w g s) : Calls Try.prog 15 #[.pointer (some ⟨g, 0, none⟩)] w fun e w' => e = .returned (.int .i64 s.twi) ∧ w = w' := by
  obtain ⟨v, c0, c1, c2, c3, c4, c5⟩ := H.cells
  clear H
  go_enter Try.func15, Try.ntmps15
  go_wp2
  go_ret
  exact ⟨rfl, rfl⟩
theorem old_calls (g : Nat) (s : FS) (w : World) (H : Held KI w g s) : Calls Try.prog 21 #[.pointer (some ⟨g, 0, none⟩)] w fun e w' => e = .returned (.int .i64 s.old) ∧ w = w' := by
  obtain ⟨v, c0, c1, c2, c3, c4, c5⟩ := H.cells
  clear H
  go_enter Try.func21, Try.ntmps21
  go_wp2
  go_ret
  exact ⟨rfl, rfl⟩
def FS.reset (s : FS) : FS := { s with l := [] }
theorem reset_calls (g : Nat) (s : FS) (w : World) (H : Held KI w g s) : Calls Try.prog 18 #[.pointer (some ⟨g, 0, none⟩)] w fun e w' => e = .returned (.tuple #[]) ∧ PutPost KI w g s.reset w' := by
  obtain ⟨v, hb, hq⟩ := H
  have c0 : w.cell? ⟨g, 0, none⟩ = some v := hb.cell 0
  have f0 := hb.frozen 0
  have HB := Aside.mk hb
  have HQ := Aside.mk hq
  clear hb hq
  go_enter Try.func18, Try.ntmps18
  go_wp2
  go_end0
  exact ⟨rfl, put HB.out HQ.out (s' := s.reset) (w1 := w) (q_of_own (own_nil w 0 60 3)) ⟨rfl, rfl, rfl, Nat.le_refl _, fun _ _ _ => rfl⟩ (fun b hb => by simp [Value.ownBlock] at hb) (HB.out.set 0 (.slice none 0 0)) ((Upon.refl (· = g) w).setg (g := g) rfl _ _)⟩
/-! ### timely -/
def FS.timely (s : FS) (now net seq : Int) : Int :=
  if now < 0 ∨ 1125899906842624 < now ∨ net < 0 ∨ 1 < net ∨ seq < 0 ∨ 255 < seq then 1 else if now < s.now then 24 else 0
theorem timely_nil (now net seq : Int) (w : World) : Calls Try.prog 22 #[.pointer none, .int .i64 now, .int .i64 net, .int .i64 seq] w fun e w' => e = .returned (.int .i64 2) ∧ w = w' := by
  go_enter Try.func22, Try.ntmps22
  go_wp2
  go_ret
  exact ⟨rfl, rfl⟩
set_option maxHeartbeats 2000000 in
theorem timely_calls (g : Nat) (s : FS) (now net seq : Int) (w : World) (H : Held KI w g s) : Calls Try.prog 22 #[.pointer (some ⟨g, 0, none⟩), .int .i64 now, .int .i64 net, .int .i64 seq] w fun e w' => e = .returned (.int .i64 (s.timely now net seq)) ∧ w = w' := by
  obtain ⟨v, c0, c1, c2, c3, c4, c5⟩ := H.cells
  clear H c0 c1 c3 c4 c5
  have key : now < 0 ∨ (¬ now < 0 ∧ 1125899906842624 < now) ∨ (¬ now < 0 ∧ ¬ 1125899906842624 < now ∧ net < 0) ∨ (¬ now < 0 ∧ ¬ 1125899906842624 < now ∧ ¬ net < 0 ∧ 1 < net) ∨ (¬ now < 0 ∧ ¬ 1125899906842624 < now ∧ ¬ net < 0 ∧ ¬ 1 < net ∧ seq < 0) ∨ (¬ now < 0 ∧ ¬ 1125899906842624 < now ∧ ¬ net < 0 ∧ ¬ 1 < net ∧ ¬ seq < 0 ∧ 255 < seq) ∨ (¬ now < 0 ∧ ¬ 1125899906842624 < now ∧ ¬ net < 0 ∧ ¬ 1 < net ∧ ¬ seq < 0 ∧ ¬ 255 < seq) := by omega
  have fin : ∀ b : Bool, (now < 0 ∨ 1125899906842624 < now ∨ net < 0 ∨ 1 < net ∨ seq < 0 ∨ 255 < seq) → s.timely now net seq = 1 := fun _ h => by unfold FS.timely; rw [if_pos h]
  have FN := Aside.mk fin
  clear fin
  rcases key with h1 | ⟨h1, h2⟩ | ⟨h1, h2, h3⟩ | ⟨h1, h2, h3, h4⟩ | ⟨h1, h2, h3, h4, h5⟩ | ⟨h1, h2, h3, h4, h5, h6⟩ | ⟨h1, h2, h3, h4, h5, h6⟩
  · have HF := Aside.mk (FN.out true (by omega)); clear FN; go_enter Try.func22, Try.ntmps22; go_wp2; go_ret; exact ⟨by rw [HF.out]; rfl, rfl⟩
  · have HF := Aside.mk (FN.out true (by omega)); clear FN; go_enter Try.func22, Try.ntmps22; go_wp2; go_ret; exact ⟨by rw [HF.out]; rfl, rfl⟩
  · have HF := Aside.mk (FN.out true (by omega)); clear FN; go_enter Try.func22, Try.ntmps22; go_wp2; go_ret; exact ⟨by rw [HF.out]; rfl, rfl⟩
  · have HF := Aside.mk (FN.out true (by omega)); clear FN; go_enter Try.func22, Try.ntmps22; go_wp2; go_ret; exact ⟨by rw [HF.out]; rfl, rfl⟩
  · have HF := Aside.mk (FN.out true (by omega)); clear FN; go_enter Try.func22, Try.ntmps22; go_wp2; go_ret; exact ⟨by rw [HF.out]; rfl, rfl⟩
  · have HF := Aside.mk (FN.out true (by omega)); clear FN; go_enter Try.func22, Try.ntmps22; go_wp2; go_ret; exact ⟨by rw [HF.out]; rfl, rfl⟩
  · clear FN
    by_cases h7 : now < s.now
    · have HF : Aside (s.timely now net seq = 24) := ⟨by unfold FS.timely; rw [if_neg (by omega), if_pos h7]⟩
      go_enter Try.func22, Try.ntmps22
      go_wp2
      go_ret
      exact ⟨by rw [HF.out]; rfl, rfl⟩
    · have HF : Aside (s.timely now net seq = 0) := ⟨by unfold FS.timely; rw [if_neg (by omega), if_neg h7]⟩
      go_enter Try.func22, Try.ntmps22
      go_wp2
      go_ret
      exact ⟨by rw [HF.out]; rfl, rfl⟩
end Go.Proofs.Ytdhgallfplbhpaa
