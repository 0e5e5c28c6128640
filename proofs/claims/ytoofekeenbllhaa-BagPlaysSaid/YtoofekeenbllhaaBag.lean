/- What each function of package bag, and its reference, answers and leaves. Conditions: the state lies in a block of its own. -/
import Derived.Test.YtoofekeenbllhaaBase
namespace Go.Proofs.Ytoofekeenbllhaa
open Go.RowKit
attribute [local go_sem] max2_int max_two

/-! ### numbers -/
def per (b : Int) : Int := 12500 * 2 ^ b.toNat
theorem per_cases {b : Int} (h0 : 0 ≤ b) (h1 : b ≤ 7) : (b = 0 ∧ per b = 12500) ∨ (b = 1 ∧ per b = 25000) ∨ (b = 2 ∧ per b = 50000) ∨ (b = 3 ∧ per b = 100000) ∨ (b = 4 ∧ per b = 200000) ∨ (b = 5 ∧ per b = 400000) ∨ (b = 6 ∧ per b = 800000) ∨ (b = 7 ∧ per b = 1600000) := by
  have : b = 0 ∨ b = 1 ∨ b = 2 ∨ b = 3 ∨ b = 4 ∨ b = 5 ∨ b = 6 ∨ b = 7 := by omega
  rcases this with rfl | rfl | rfl | rfl | rfl | rfl | rfl | rfl <;> decide
theorem per_le {b : Int} (h0 : 0 ≤ b) (h1 : b ≤ 7) : 12500 ≤ per b ∧ per b ≤ 1600000 := by
  rcases per_cases h0 h1 with h | h | h | h | h | h | h | h <;> omega
theorem per_wrap {b : Int} (h0 : 0 ≤ b) (h1 : b ≤ 7) : wrap64 (12500 * 2 ^ b.toNat) = per b := by
  have := per_le h0 h1
  unfold per at *
  unfold wrap64
  omega

/-- The state of a Regulator. -/
structure Reg where
  b : Int
  went : Bool
  at_ : Int
  seen : Int
  cnt : Int
def Reg.cells (s : Reg) : Array Value := #[.int .u64 s.b, .bool s.went, .int .i64 s.at_, .int .i64 s.seen, .int .i64 s.cnt]
/-- What holds of it all along. -/
structure Reg.ok (s : Reg) : Prop where
  b0 : 0 ≤ s.b
  b7 : s.b ≤ 7
  at0 : s.went = false → s.at_ = 0
  atb : 0 ≤ s.at_ ∧ s.at_ ≤ 1125899906842624
  seen0 : 0 ≤ s.seen ∧ s.seen ≤ 1125899906842624
  cnt0 : 0 ≤ s.cnt
/-- Is it too soon? -/
def Reg.soon (s : Reg) (now : Int) : Bool := s.went && decide (now < s.at_ + per s.b)
def Reg.when_ (s : Reg) (now : Int) : Int := if s.soon now then s.at_ + per s.b else now
def Reg.err (s : Reg) (now : Int) : Int := if now < 0 ∨ 1125899906842624 < now then 1 else if now < s.seen then 24 else if s.soon now then 26 else 0
def Reg.take (s : Reg) (now : Int) : Reg := if s.err now = 0 then { s with went := true, at_ := now, seen := now, cnt := s.cnt + 1 } else s

/-! ### package bag -/
def mayB (b : Int) : Bool := decide (0 ≤ b ∧ b ≤ 7)
def timelyB (b : Int) : Bool := decide (0 ≤ b ∧ b ≤ 1125899906842624)
theorem mayB_true {b : Int} (h : 0 ≤ b ∧ b ≤ 7) : mayB b = true := decide_eq_true h
theorem mayB_false {b : Int} (h : ¬ (0 ≤ b ∧ b ≤ 7)) : mayB b = false := decide_eq_false h
theorem timelyB_true {b : Int} (h : 0 ≤ b ∧ b ≤ 1125899906842624) : timelyB b = true := decide_eq_true h
theorem timelyB_false {b : Int} (h : ¬ (0 ≤ b ∧ b ≤ 1125899906842624)) : timelyB b = false := decide_eq_false h
set_option maxHeartbeats 400000 in
theorem may_calls (b : Int) (w : World) : Calls Try.prog 22 #[.int .i64 b] w fun e w' => e = .returned (.bool (mayB b)) ∧ w = w' := by
  by_cases h0 : 0 ≤ b
  · by_cases h1 : b ≤ 7
    · go_enter Try.func22, Try.ntmps22
      go_wp2
      go_ret
      exact ⟨by rw [mayB_true ⟨h0, h1⟩]; rfl, rfl⟩
    · go_enter Try.func22, Try.ntmps22
      go_wp2
      go_ret
      exact ⟨by rw [mayB_false (by omega)]; rfl, rfl⟩
  · go_enter Try.func22, Try.ntmps22
    go_wp2
    go_ret
    exact ⟨by rw [mayB_false (by omega)]; rfl, rfl⟩
set_option maxHeartbeats 400000 in
theorem timely_calls (b : Int) (w : World) : Calls Try.prog 23 #[.int .i64 b] w fun e w' => e = .returned (.bool (timelyB b)) ∧ w = w' := by
  by_cases h0 : 0 ≤ b
  · by_cases h1 : b ≤ 1125899906842624
    · go_enter Try.func23, Try.ntmps23
      go_wp2
      go_ret
      exact ⟨by rw [timelyB_true ⟨h0, h1⟩]; rfl, rfl⟩
    · go_enter Try.func23, Try.ntmps23
      go_wp2
      go_ret
      exact ⟨by rw [timelyB_false (by omega)]; rfl, rfl⟩
  · go_enter Try.func23, Try.ntmps23
    go_wp2
    go_ret
    exact ⟨by rw [timelyB_false (by omega)]; rfl, rfl⟩

set_option maxHeartbeats 400000 in
theorem period_calls (g : Nat) (b : Int) (w : World) (h0 : w.cell? ⟨g, 0, none⟩ = some (.int .u64 b)) (hb0 : 0 ≤ b) (hb : b ≤ 7) :
    Calls Try.prog 15 #[.pointer (some ⟨g, 0, none⟩)] w fun e w' => e = .returned (.int .i64 (per b)) ∧ w = w' := by
  have hp := per_wrap hb0 hb
  have HP : Aside (wrap64 (12500 * 2 ^ b.toNat) = per b) := ⟨hp⟩
  clear hp
  go_enter Try.func15, Try.ntmps15
  go_wp2
  go_ret
  exact ⟨by rw [HP.out]; rfl, rfl⟩
set_option maxHeartbeats 400000 in
theorem period_nil (w : World) : Calls Try.prog 15 #[.pointer none] w fun e w' => e = .returned (.int .i64 0) ∧ w = w' := by
  go_enter Try.func15, Try.ntmps15
  go_wp2
  go_ret
  exact ⟨rfl, rfl⟩

set_option maxHeartbeats 400000 in
theorem when_none (g : Nat) (now : Int) (w : World) (h1 : w.cell? ⟨g, 1, none⟩ = some (.bool false)) (h2 : w.cell? ⟨g, 2, none⟩ = some (.int .i64 0)) :
    Calls Try.prog 14 #[.pointer (some ⟨g, 0, none⟩), .int .i64 now] w fun e w' => e = .returned (.int .i64 now) ∧ ∃ n, w' = w.drewN n := by
  go_enter Try.func14, Try.ntmps14
  go_wp2
  go_ret
  exact ⟨rfl, 0, rfl⟩
set_option maxHeartbeats 400000 in
theorem when_some (g : Nat) (b at_ now : Int) (w : World) (h0 : w.cell? ⟨g, 0, none⟩ = some (.int .u64 b)) (h1 : w.cell? ⟨g, 1, none⟩ = some (.bool true)) (h2 : w.cell? ⟨g, 2, none⟩ = some (.int .i64 at_)) (hb0 : 0 ≤ b) (hb : b ≤ 7) (ha0 : 0 ≤ at_) (ha : at_ ≤ 1125899906842624) :
    Calls Try.prog 14 #[.pointer (some ⟨g, 0, none⟩), .int .i64 now] w fun e w' => e = .returned (.int .i64 (if now < at_ + per b then at_ + per b else now)) ∧ ∃ n, w' = w.drewN n := by
  have hp := per_le hb0 hb
  obtain ⟨hp0, hp1⟩ := hp
  go_enter Try.func14, Try.ntmps14
  go_wp2
  go_quiet ((go_at_call 15; exact Calls.quiet_of_same ((period_calls _ _ _ (by exact h0) hb0 hb).mono fun _ _ h => ⟨h.1, h.2.symm⟩)))
  go_wp2
  all_goals
    go_ret
    exact ⟨rfl, _, rfl⟩

theorem reg_cells {w : World} {g : Nat} {s : Reg} (h : Blk w g 51 s.cells) : w.cell? ⟨g, 0, none⟩ = some (.int .u64 s.b) ∧ w.cell? ⟨g, 1, none⟩ = some (.bool s.went) ∧ w.cell? ⟨g, 2, none⟩ = some (.int .i64 s.at_) ∧ w.cell? ⟨g, 3, none⟩ = some (.int .i64 s.seen) ∧ w.cell? ⟨g, 4, none⟩ = some (.int .i64 s.cnt) :=
  ⟨h.cell 0, h.cell 1, h.cell 2, h.cell 3, h.cell 4⟩

theorem period_reg (g : Nat) (s : Reg) (w : World) (h : Blk w g 51 s.cells) (ok : s.ok) :
    Calls Try.prog 15 #[.pointer (some ⟨g, 0, none⟩)] w fun e w' => e = .returned (.int .i64 (per s.b)) ∧ w = w' := period_calls g s.b w (reg_cells h).1 ok.b0 ok.b7

theorem when_calls (g : Nat) (s : Reg) (now : Int) (w : World) (h : Blk w g 51 s.cells) (ok : s.ok) :
    Calls Try.prog 14 #[.pointer (some ⟨g, 0, none⟩), .int .i64 now] w fun e w' => e = .returned (.int .i64 (s.when_ now)) ∧ ∃ n, w' = w.drewN n := by
  obtain ⟨h0, h1, h2, h3, h4⟩ := reg_cells h
  unfold Reg.when_ Reg.soon
  cases hw : s.went with
  | false =>
    rw [hw] at h1
    rw [ok.at0 hw] at h2
    exact (when_none g now w h1 h2).mono fun _ _ h => ⟨by simpa using h.1, h.2⟩
  | true =>
    rw [hw] at h1
    exact (when_some g s.b s.at_ now w h0 h1 h2 ok.b0 ok.b7 ok.atb.1 ok.atb.2).mono fun _ _ h => ⟨by simpa using h.1, h.2⟩

set_option maxHeartbeats 400000 in
theorem take_arg (g : Nat) (now : Int) (w : World) (hn : now < 0 ∨ 1125899906842624 < now) :
    Calls Try.prog 13 #[.pointer (some ⟨g, 0, none⟩), .int .i64 now] w fun e w' => e = .returned (.int .i64 1) ∧ w' = w := by
  have hd := timelyB_false (b := now) (by omega)
  have HD := Aside.mk hd
  clear hd
  go_enter Try.func13, Try.ntmps13
  go_wp2_with (go_at_call 23; refine (timely_calls _ _).mono ?_; rintro e w' ⟨rfl, rfl⟩; rw [HD.out])
  go_ret
  exact ⟨rfl, rfl⟩
set_option maxHeartbeats 400000 in
theorem take_time (g : Nat) (now seen : Int) (w : World) (h3 : w.cell? ⟨g, 3, none⟩ = some (.int .i64 seen)) (hn : 0 ≤ now ∧ now ≤ 1125899906842624) (hs : now < seen) :
    Calls Try.prog 13 #[.pointer (some ⟨g, 0, none⟩), .int .i64 now] w fun e w' => e = .returned (.int .i64 24) ∧ w' = w := by
  have hd := timelyB_true (b := now) (by omega)
  have HD := Aside.mk hd
  clear hd
  go_enter Try.func13, Try.ntmps13
  go_wp2_with (go_at_call 23; refine (timely_calls _ _).mono ?_; rintro e w' ⟨rfl, rfl⟩; rw [HD.out])
  go_ret
  exact ⟨rfl, rfl⟩
set_option maxHeartbeats 400000 in
theorem take_rate (g : Nat) (s : Reg) (now : Int) (w : World) (h : Blk w g 51 s.cells) (ok : s.ok) (hn : 0 ≤ now ∧ now ≤ 1125899906842624) (hs : s.seen ≤ now) (hr : s.soon now = true) :
    Calls Try.prog 13 #[.pointer (some ⟨g, 0, none⟩), .int .i64 now] w fun e w' => e = .returned (.int .i64 26) ∧ ∃ n, w' = w.drewN n := by
  have hd := timelyB_true (b := now) (by omega)
  have HD := Aside.mk hd
  clear hd
  have hlt : now < s.when_ now := by
    unfold Reg.when_; rw [hr]; simp only [if_true]
    unfold Reg.soon at hr; simp at hr; omega
  obtain ⟨h0, h1, h2, h3, h4⟩ := reg_cells h
  have HB := Aside.mk h
  clear h hr h0 h1 h2 h4
  go_enter Try.func13, Try.ntmps13
  go_wp2_with (first | (go_at_call 23; refine (timely_calls _ _).mono ?_; rintro e w' ⟨rfl, rfl⟩; rw [HD.out]) | (go_at_call 14; refine (when_calls _ s _ _ HB.out ok).mono ?_; rintro e w' ⟨rfl, n, rfl⟩))
  go_ret
  exact ⟨rfl, _, rfl⟩
set_option maxHeartbeats 400000 in
theorem take_goes (g : Nat) (s : Reg) (now : Int) (w : World) (h : Blk w g 51 s.cells) (ok : s.ok) (hn : 0 ≤ now ∧ now ≤ 1125899906842624) (hs : s.seen ≤ now) (hr : s.soon now = false) (hc : s.cnt ≤ 1125899906842624) :
    Calls Try.prog 13 #[.pointer (some ⟨g, 0, none⟩), .int .i64 now] w fun e w' => e = .returned (.int .i64 0) ∧ Blk w' g 51 { s with went := true, at_ := now, seen := now, cnt := s.cnt + 1 : Reg }.cells ∧ Upon (· = g) w w' := by
  have hd := timelyB_true (b := now) (by omega)
  have HD := Aside.mk hd
  clear hd
  have hwh : s.when_ now = now := by
    unfold Reg.when_; rw [hr]; simp
  have HW := Aside.mk hwh
  clear hwh hr
  obtain ⟨h0, h1, h2, h3, h4⟩ := reg_cells h
  have f1 := h.frozen 1
  have f2 := h.frozen 2
  have f3 := h.frozen 3
  have f4 := h.frozen 4
  have HB := Aside.mk h
  have hcl := ok.cnt0
  clear h
  go_enter Try.func13, Try.ntmps13
  go_wp2_with (first | (go_at_call 23; refine (timely_calls _ _).mono ?_; rintro e w' ⟨rfl, rfl⟩; rw [HD.out]) | (go_at_call 14; refine (when_calls _ s _ _ HB.out ok).mono ?_; rintro e w' ⟨rfl, n, rfl⟩; rw [HW.out]))
  go_ret
  refine ⟨rfl, ?_, ?_⟩
  · have hb := (((((HB.out.drewN n).set 1 (.bool true)).set 2 (.int .i64 now)).set 3 (.int .i64 now)).set 4 (.int .i64 (s.cnt + 1)))
    simpa [Reg.cells] using hb
  · exact (((((Upon.refl (· = g) w).drewN n).setg rfl _ _).setg rfl _ _).setg rfl _ _).setg rfl _ _

theorem Reg.take_ok {s : Reg} (h : s.ok) (now : Int) : (s.take now).ok := by
  unfold Reg.take
  split
  · rename_i he
    unfold Reg.err at he
    split at he
    · omega
    split at he
    · omega
    have := h.cnt0
    exact ⟨h.b0, h.b7, by simp, by simp; omega, by simp; omega, by simp; omega⟩
  · exact h
theorem Reg.take_cnt {s : Reg} (now : Int) : (s.take now).cnt ≤ s.cnt + 1 := by
  unfold Reg.take
  split
  · simp
  · omega

theorem take_calls (g : Nat) (s : Reg) (now : Int) (w : World) (h : Blk w g 51 s.cells) (ok : s.ok) (hc : s.cnt ≤ 1125899906842624) :
    Calls Try.prog 13 #[.pointer (some ⟨g, 0, none⟩), .int .i64 now] w fun e w' => e = .returned (.int .i64 (s.err now)) ∧ Blk w' g 51 (s.take now).cells ∧ Upon (· = g) w w' := by
  by_cases h1 : now < 0 ∨ 1125899906842624 < now
  · have e1 : s.err now = 1 := if_pos h1
    have e2 : s.take now = s := by unfold Reg.take; rw [e1]; simp
    rw [e1, e2]
    exact (take_arg g now w h1).mono fun e w' ⟨he, hw⟩ => by subst hw; exact ⟨he, h, Upon.refl _ _⟩
  by_cases h2 : now < s.seen
  · have e1 : s.err now = 24 := by unfold Reg.err; rw [if_neg h1, if_pos h2]
    have e2 : s.take now = s := by unfold Reg.take; rw [e1]; simp
    rw [e1, e2]
    exact (take_time g now s.seen w (h.cell 3) (by omega) h2).mono fun e w' ⟨he, hw⟩ => by subst hw; exact ⟨he, h, Upon.refl _ _⟩
  cases h3 : s.soon now with
  | true =>
    have e1 : s.err now = 26 := by unfold Reg.err; rw [if_neg h1, if_neg h2, h3]; rfl
    have e2 : s.take now = s := by unfold Reg.take; rw [e1]; simp
    rw [e1, e2]
    exact (take_rate g s now w h ok (by omega) (by omega) h3).mono fun e w' ⟨he, n, hw⟩ => by subst hw; exact ⟨he, h.drewN n, (Upon.refl _ _).drewN n⟩
  | false =>
    have e1 : s.err now = 0 := by unfold Reg.err; rw [if_neg h1, if_neg h2, h3]; rfl
    have e2 : s.take now = { s with went := true, at_ := now, seen := now, cnt := s.cnt + 1 } := by unfold Reg.take; rw [e1]; rfl
    rw [e1, e2]
    exact take_goes g s now w h ok (by omega) (by omega) h3 hc

set_option maxHeartbeats 400000 in
theorem take_nil (now : Int) (w : World) : Calls Try.prog 13 #[.pointer none, .int .i64 now] w fun e w' => e = .returned (.int .i64 2) ∧ w = w' := by
  go_enter Try.func13, Try.ntmps13
  go_wp2
  go_ret
  exact ⟨rfl, rfl⟩
set_option maxHeartbeats 400000 in
theorem when_nil (now : Int) (w : World) : Calls Try.prog 14 #[.pointer none, .int .i64 now] w fun e w' => e = .returned (.int .i64 0) ∧ w = w' := by
  go_enter Try.func14, Try.ntmps14
  go_wp2
  go_ret
  exact ⟨rfl, rfl⟩
set_option maxHeartbeats 400000 in
theorem count_nil (w : World) : Calls Try.prog 16 #[.pointer none] w fun e w' => e = .returned (.int .i64 0) ∧ w = w' := by
  go_enter Try.func16, Try.ntmps16
  go_wp2
  go_ret
  exact ⟨rfl, rfl⟩
set_option maxHeartbeats 400000 in
theorem count_calls (g : Nat) (c : Int) (w : World) (h : w.cell? ⟨g, 4, none⟩ = some (.int .i64 c)) : Calls Try.prog 16 #[.pointer (some ⟨g, 0, none⟩)] w fun e w' => e = .returned (.int .i64 c) ∧ w = w' := by
  go_enter Try.func16, Try.ntmps16
  go_wp2
  go_ret
  exact ⟨rfl, rfl⟩
set_option maxHeartbeats 400000 in
theorem reset_nil (w : World) : Calls Try.prog 20 #[.pointer none] w fun e w' => e = .returned (.tuple #[]) ∧ w = w' := by
  go_enter Try.func20, Try.ntmps20
  go_wp2
  go_end0
  exact ⟨rfl, rfl⟩
def Reg.reset (s : Reg) : Reg := { s with went := false, at_ := 0 }
set_option maxHeartbeats 400000 in
theorem reset_calls (g : Nat) (s : Reg) (w : World) (h : Blk w g 51 s.cells) :
    Calls Try.prog 20 #[.pointer (some ⟨g, 0, none⟩)] w fun e w' => e = .returned (.tuple #[]) ∧ Blk w' g 51 s.reset.cells ∧ Upon (· = g) w w' := by
  obtain ⟨h0, h1, h2, h3, h4⟩ := reg_cells h
  have f1 := h.frozen 1
  have f2 := h.frozen 2
  have HB := Aside.mk h
  clear h
  go_enter Try.func20, Try.ntmps20
  go_wp2
  go_end0
  refine ⟨rfl, ?_, ?_⟩
  · have hb := (HB.out.set 1 (.bool false)).set 2 (.int .i64 0)
    simpa [Reg.cells, Reg.reset] using hb
  · exact ((Upon.refl (· = g) w).setg rfl _ _).setg rfl _ _
def Reg.new (b : Int) : Reg := ⟨b, false, 0, 0, 0⟩
set_option maxHeartbeats 400000 in
theorem new_no (b : Int) (w : World) (h : ¬ (0 ≤ b ∧ b ≤ 7)) : Calls Try.prog 12 #[.int .i64 b] w fun e w' => e = .returned (.tuple #[.pointer none, .int .i64 1]) ∧ w = w' := by
  have HD := Aside.mk (mayB_false h)
  clear h
  go_enter Try.func12, Try.ntmps12
  go_wp2_with (go_at_call 22; refine (may_calls _ _).mono ?_; rintro e w' ⟨rfl, rfl⟩; rw [HD.out])
  go_ret2
  exact ⟨rfl, rfl⟩
set_option maxHeartbeats 400000 in
theorem new_yes (b : Int) (w : World) (h : 0 ≤ b ∧ b ≤ 7) : Calls Try.prog 12 #[.int .i64 b] w fun e w' => e = .returned (.tuple #[.pointer (some ⟨w.heap.size, 0, none⟩), .int .i64 0]) ∧ Blk w' w.heap.size 51 (Reg.new b).cells ∧ Below w.heap.size w w' := by
  have HD := Aside.mk (mayB_true h)
  obtain ⟨h0, h1⟩ := h
  go_enter Try.func12, Try.ntmps12
  go_wp2_with (go_at_call 22; refine (may_calls _ _).mono ?_; rintro e w' ⟨rfl, rfl⟩; rw [HD.out])
  go_ret2
  refine ⟨rfl, Blk.new _ _ _, ?_⟩
  exact (Below.refl _ _).alloc (Nat.le_refl _) _
theorem Reg.new_ok {b : Int} (h : 0 ≤ b ∧ b ≤ 7) : (Reg.new b).ok := ⟨h.1, h.2, fun _ => rfl, by simp [Reg.new], by simp [Reg.new], by simp [Reg.new]⟩
theorem Reg.reset_ok {s : Reg} (h : s.ok) : s.reset.ok := ⟨h.b0, h.b7, fun _ => rfl, by simp [Reg.reset], h.seen0, h.cnt0⟩

/-! ### Bound -/
def boundOf (b t : Int) : Int := (t + per b - 1) / per b
set_option maxHeartbeats 400000 in
theorem bound_no (b t : Int) (w : World) (h : ¬ (0 ≤ b ∧ b ≤ 7) ∨ ¬ (0 ≤ t ∧ t ≤ 1125899906842624)) : Calls Try.prog 9 #[.int .i64 b, .int .i64 t] w fun e w' => e = .returned (.tuple #[.int .i64 0, .int .i64 1]) ∧ w = w' := by
  by_cases h1 : 0 ≤ b ∧ b ≤ 7
  · have HD := Aside.mk (mayB_true h1)
    have HT := Aside.mk (timelyB_false (b := t) (by omega))
    clear h h1
    go_enter Try.func9, Try.ntmps9
    go_wp2_with (first | (go_at_call 22; refine (may_calls _ _).mono ?_; rintro e w' ⟨rfl, rfl⟩; rw [HD.out]) | (go_at_call 23; refine (timely_calls _ _).mono ?_; rintro e w' ⟨rfl, rfl⟩; rw [HT.out]))
    go_ret2
    exact ⟨rfl, rfl⟩
  · have HD := Aside.mk (mayB_false h1)
    clear h h1
    go_enter Try.func9, Try.ntmps9
    go_wp2_with (first | (go_at_call 22; refine (may_calls _ _).mono ?_; rintro e w' ⟨rfl, rfl⟩; rw [HD.out]))
    go_ret2
    exact ⟨rfl, rfl⟩
set_option maxHeartbeats 400000 in
theorem bound_yes (b t : Int) (w : World) (h : 0 ≤ b ∧ b ≤ 7) (ht : 0 ≤ t ∧ t ≤ 1125899906842624) : Calls Try.prog 9 #[.int .i64 b, .int .i64 t] w fun e w' => e = .returned (.tuple #[.int .i64 (boundOf b t), .int .i64 0]) ∧ w = w' := by
  have HD := Aside.mk (mayB_true h)
  have HT := Aside.mk (timelyB_true ht)
  have hp := per_wrap h.1 h.2
  obtain ⟨hp0, hp1⟩ := per_le h.1 h.2
  have hz : ((per b) == 0) = false := beq_eq_false_iff_ne.2 (by omega)
  have HQ : Aside (0 ≤ boundOf b t) := ⟨Int.ediv_nonneg (by omega) (by omega)⟩
  obtain ⟨h0, h1⟩ := h
  obtain ⟨t0, t1⟩ := ht
  go_enter Try.func9, Try.ntmps9
  go_wp2_with (first | (go_at_call 22; refine (may_calls _ _).mono ?_; rintro e w' ⟨rfl, rfl⟩; rw [HD.out]) | (go_at_call 23; refine (timely_calls _ _).mono ?_; rintro e w' ⟨rfl, rfl⟩; rw [HT.out]))
  go_ret2
  exact ⟨rfl, rfl⟩

/-! ### the reference -/
set_option maxHeartbeats 400000 in
theorem rperiod_calls (b : Int) (w : World) (h : 0 ≤ b ∧ b ≤ 7) : Calls Try.prog 24 #[.int .i64 b] w fun e w' => e = .returned (.int .i64 (per b)) ∧ w = w' := by
  obtain ⟨h0, h1⟩ := h
  obtain ⟨n, rfl⟩ := Int.eq_ofNat_of_zero_le h0
  go_enter Try.func24, Try.ntmps24
  go_wp2
  go_loop [3, 4] (fun v i => ∃ k : Nat, k ≤ n ∧ i = .int .i64 k ∧ v = .int .i64 (per k)) (fun _ i => n - (intOf i).toNat)
  case atStart => exact ⟨0, Nat.zero_le _, rfl, rfl⟩
  case round =>
    obtain ⟨k, hk, rfl, rfl⟩ := hrel
    by_cases hlt : k < n
    · have hp := per_le (b := k) (by omega) (by omega)
      have hs : per ((k + 1 : Nat) : Int) = 2 * per k := by
        unfold per; simp [Int.pow_succ]; omega
      have HS := Aside.mk hs
      clear hs
      obtain ⟨hp0, hp1⟩ := hp
      go_wp2
      go_round
      case rel => exact ⟨k + 1, by omega, by go_num, by rw [HS.out]⟩
      case measure => simp [intOf]; omega
    · have : k = n := by omega
      subst this
      go_wp2
      go_ret
      exact ⟨rfl, rfl⟩

/-- The reference's cells that are one with a state: 'l' is what Last holds. -/
def Reg.rcells (s : Reg) (l : Int) : Array Value := #[.int .i64 (per s.b), .bool s.went, .int .i64 l, .int .i64 s.seen, .int .i64 s.cnt]
def Reg.last (s : Reg) (l : Int) : Prop := s.went = true → l = s.at_
set_option maxHeartbeats 400000 in
theorem rnew_no (b : Int) (w : World) (h : ¬ (0 ≤ b ∧ b ≤ 7)) : Calls Try.prog 17 #[.int .i64 b] w fun e w' => e = .returned (.tuple #[.pointer none, .int .i64 1]) ∧ w = w' := by
  by_cases h0 : b < 0
  · go_enter Try.func17, Try.ntmps17
    go_wp2
    go_ret2
    exact ⟨rfl, rfl⟩
  · have h1 : 7 < b := by omega
    go_enter Try.func17, Try.ntmps17
    go_wp2
    go_ret2
    exact ⟨rfl, rfl⟩
set_option maxHeartbeats 400000 in
theorem rnew_yes (b : Int) (w : World) (h : 0 ≤ b ∧ b ≤ 7) : Calls Try.prog 17 #[.int .i64 b] w fun e w' => e = .returned (.tuple #[.pointer (some ⟨w.heap.size, 0, none⟩), .int .i64 0]) ∧ Blk w' w.heap.size 44 ((Reg.new b).rcells 0) ∧ Below w.heap.size w w' := by
  have H := Aside.mk h
  obtain ⟨h0, h1⟩ := h
  go_enter Try.func17, Try.ntmps17
  go_wp2_with (go_at_call 24; refine (rperiod_calls _ _ H.out).mono ?_; rintro e w' ⟨rfl, rfl⟩)
  go_ret2
  exact ⟨rfl, Blk.new _ _ _, (Below.refl _ _).alloc (Nat.le_refl _) _⟩
set_option maxHeartbeats 400000 in
theorem rwhen_calls (g : Nat) (s : Reg) (l now : Int) (w : World) (h : Blk w g 44 (s.rcells l)) (ok : s.ok) (hl : s.last l) :
    Calls Try.prog 19 #[.pointer (some ⟨g, 0, none⟩), .int .i64 now] w fun e w' => e = .returned (.int .i64 (s.when_ now)) ∧ ∃ n, w' = w.drewN n := by
  have h0 : w.cell? ⟨g, 0, none⟩ = some (.int .i64 (per s.b)) := h.cell 0
  have h1 : w.cell? ⟨g, 1, none⟩ = some (.bool s.went) := h.cell 1
  have h2 : w.cell? ⟨g, 2, none⟩ = some (.int .i64 l) := h.cell 2
  obtain ⟨p0, p1⟩ := per_le ok.b0 ok.b7
  obtain ⟨a0, a1⟩ := ok.atb
  clear h
  cases hw : s.went with
  | false =>
    rw [hw] at h1
    have HF : Aside (s.when_ now = now) := ⟨by unfold Reg.when_ Reg.soon; rw [hw]; simp⟩
    clear hw hl h0 h2
    go_enter Try.func19, Try.ntmps19
    go_wp2
    go_ret
    exact ⟨by rw [HF.out]; rfl, 0, rfl⟩
  | true =>
    rw [hw] at h1
    have hl1 := hl hw
    rw [hl1] at h2
    by_cases hc : now < s.at_ + per s.b
    · have HF : Aside (s.when_ now = s.at_ + per s.b) := ⟨by unfold Reg.when_ Reg.soon; rw [hw]; simp [hc]⟩
      clear hw hl hl1
      go_enter Try.func19, Try.ntmps19
      go_wp2
      repeat (go_quiet (fail); try go_wp2)
      go_ret
      exact ⟨by rw [HF.out]; rfl, _, rfl⟩
    · have HF : Aside (s.when_ now = now) := ⟨by unfold Reg.when_ Reg.soon; rw [hw]; simp [hc]⟩
      clear hw hl hl1
      go_enter Try.func19, Try.ntmps19
      go_wp2
      repeat (go_quiet (fail); try go_wp2)
      go_ret
      exact ⟨by rw [HF.out]; rfl, _, rfl⟩
set_option maxHeartbeats 400000 in
theorem rreset_calls (g : Nat) (s : Reg) (l : Int) (w : World) (h : Blk w g 44 (s.rcells l)) :
    Calls Try.prog 21 #[.pointer (some ⟨g, 0, none⟩)] w fun e w' => e = .returned (.tuple #[]) ∧ Blk w' g 44 (s.reset.rcells l) ∧ Upon (· = g) w w' := by
  have h1 : w.cell? ⟨g, 1, none⟩ = some (.bool s.went) := h.cell 1
  have f1 := h.frozen 1
  have HB := Aside.mk h
  clear h
  go_enter Try.func21, Try.ntmps21
  go_wp2
  go_end0
  refine ⟨rfl, ?_, ?_⟩
  · have hb := HB.out.set 1 (.bool false)
    simpa [Reg.rcells, Reg.reset] using hb
  · exact (Upon.refl (· = g) w).setg rfl _ _
set_option maxHeartbeats 400000 in
theorem rtake_calls (g : Nat) (s : Reg) (l now : Int) (w : World) (h : Blk w g 44 (s.rcells l)) (ok : s.ok) (hl : s.last l) (hc : s.cnt ≤ 1125899906842624) (i64 : -9223372036854775808 ≤ now ∧ now ≤ 9223372036854775807) :
    Calls Try.prog 18 #[.pointer (some ⟨g, 0, none⟩), .int .i64 now] w fun e w' => e = .returned (.int .i64 (s.err now)) ∧ (∃ l', Blk w' g 44 ((s.take now).rcells l') ∧ (s.take now).last l') ∧ Upon (· = g) w w' := by
  have h0 : w.cell? ⟨g, 0, none⟩ = some (.int .i64 (per s.b)) := h.cell 0
  have h1 : w.cell? ⟨g, 1, none⟩ = some (.bool s.went) := h.cell 1
  have h2 : w.cell? ⟨g, 2, none⟩ = some (.int .i64 l) := h.cell 2
  have h3 : w.cell? ⟨g, 3, none⟩ = some (.int .i64 s.seen) := h.cell 3
  have h4 : w.cell? ⟨g, 4, none⟩ = some (.int .i64 s.cnt) := h.cell 4
  have f1 := h.frozen 1
  have f2 := h.frozen 2
  have f3 := h.frozen 3
  have f4 := h.frozen 4
  obtain ⟨p0, p1⟩ := per_le ok.b0 ok.b7
  obtain ⟨a0, a1⟩ := ok.atb
  have hcl := ok.cnt0
  have HB := Aside.mk h
  have HL := Aside.mk hl
  clear h hl
  by_cases c1 : now < 0
  · have e1 : s.err now = 1 := if_pos (.inl c1)
    have e2 : s.take now = s := by unfold Reg.take; rw [e1]; simp
    rw [e1, e2]
    clear e1 e2
    go_enter Try.func18, Try.ntmps18
    go_wp2
    go_ret
    exact ⟨rfl, ⟨l, HB.out, HL.out⟩, Upon.refl _ _⟩
  by_cases c2 : 1125899906842624 < now
  · have e1 : s.err now = 1 := if_pos (.inr c2)
    have e2 : s.take now = s := by unfold Reg.take; rw [e1]; simp
    rw [e1, e2]
    clear e1 e2
    go_enter Try.func18, Try.ntmps18
    go_wp2
    go_ret
    exact ⟨rfl, ⟨l, HB.out, HL.out⟩, Upon.refl _ _⟩
  have c12 : ¬ (now < 0 ∨ 1125899906842624 < now) := by omega
  by_cases c3 : now < s.seen
  · have e1 : s.err now = 24 := by unfold Reg.err; rw [if_neg c12, if_pos c3]
    have e2 : s.take now = s := by unfold Reg.take; rw [e1]; simp
    rw [e1, e2]
    clear e1 e2 c12
    go_enter Try.func18, Try.ntmps18
    go_wp2
    go_ret
    exact ⟨rfl, ⟨l, HB.out, HL.out⟩, Upon.refl _ _⟩
  cases c4 : s.soon now with
  | true =>
    have e1 : s.err now = 26 := by unfold Reg.err; rw [if_neg c12, if_neg c3, c4]; rfl
    have e2 : s.take now = s := by unfold Reg.take; rw [e1]; simp
    rw [e1, e2]
    unfold Reg.soon at c4
    simp only [Bool.and_eq_true, decide_eq_true_eq] at c4
    rw [HL.out c4.1] at h2
    rw [c4.1] at h1
    have c5 : now - s.at_ < per s.b := by omega
    clear e1 e2 c12 c4
    go_enter Try.func18, Try.ntmps18
    go_wp2
    repeat (go_quiet (fail); try go_wp2)
    go_ret
    exact ⟨rfl, ⟨l, HB.out, HL.out⟩, by first | exact Upon.refl _ _ | exact (Upon.refl _ _).drewN _⟩
  | false =>
    have e1 : s.err now = 0 := by unfold Reg.err; rw [if_neg c12, if_neg c3, c4]; rfl
    have e2 : s.take now = { s with went := true, at_ := now, seen := now, cnt := s.cnt + 1 } := by unfold Reg.take; rw [e1]; rfl
    rw [e1, e2]
    have fin : ∀ w1 : World, Blk w1 g 44 (s.rcells l) → Blk ((((w1.setCell ⟨g, 1, none⟩ (.bool true)).setCell ⟨g, 2, none⟩ (.int .i64 now)).setCell ⟨g, 3, none⟩ (.int .i64 now)).setCell ⟨g, 4, none⟩ (.int .i64 (s.cnt + 1))) g 44 (({ s with went := true, at_ := now, seen := now, cnt := s.cnt + 1 } : Reg).rcells now) := fun w1 hb => by
      have hb := (((hb.set 1 (.bool true)).set 2 (.int .i64 now)).set 3 (.int .i64 now)).set 4 (.int .i64 (s.cnt + 1))
      simpa [Reg.rcells] using hb
    have FIN := Aside.mk fin
    cases hw : s.went with
    | false =>
      rw [hw] at h1
      clear e1 e2 c12 c4 fin hw
      go_enter Try.func18, Try.ntmps18
      go_wp2
      repeat (go_quiet (fail); try go_wp2)
      go_ret
      first
      | exact ⟨rfl, ⟨now, FIN.out _ HB.out, fun _ => rfl⟩, ((((Upon.refl (· = g) w).setg rfl _ _).setg rfl _ _).setg rfl _ _).setg rfl _ _⟩
      | exact ⟨rfl, ⟨now, FIN.out _ (HB.out.drewN _), fun _ => rfl⟩, (((((Upon.refl (· = g) w).drewN _).setg rfl _ _).setg rfl _ _).setg rfl _ _).setg rfl _ _⟩
    | true =>
      rw [HL.out hw] at h2
      rw [hw] at h1
      unfold Reg.soon at c4
      rw [hw] at c4
      simp only [Bool.true_and, decide_eq_false_iff_not] at c4
      have c5 : ¬ now - s.at_ < per s.b := by omega
      clear e1 e2 c12 c4 fin hw
      go_enter Try.func18, Try.ntmps18
      go_wp2
      repeat (go_quiet (fail); try go_wp2)
      go_ret
      first
      | exact ⟨rfl, ⟨now, FIN.out _ HB.out, fun _ => rfl⟩, ((((Upon.refl (· = g) w).setg rfl _ _).setg rfl _ _).setg rfl _ _).setg rfl _ _⟩
      | exact ⟨rfl, ⟨now, FIN.out _ (HB.out.drewN _), fun _ => rfl⟩, (((((Upon.refl (· = g) w).drewN _).setg rfl _ _).setg rfl _ _).setg rfl _ _).setg rfl _ _⟩
end Go.Proofs.Ytoofekeenbllhaa
