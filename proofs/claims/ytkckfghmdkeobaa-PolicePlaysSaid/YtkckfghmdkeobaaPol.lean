/- What each function of package police answers and leaves. Conditions: the account lies in a block of its own, and its rule may be. -/
import Derived.Test.YtkckfghmdkeobaaBase
namespace Go.Proofs.Ytkckfghmdkeobaa
open Go.RowKit
set_option linter.unusedVariables false
/-- min, told whole. -/
def mn (x y : Int) : Int := if y < x then y else x
theorem min2_mn (k k' : IntKind) (x y : Int) : Builtin.min2 (.int k x) (.int k' y) = pure (.int k (mn x y)) := min2_int k k' x y
attribute [local go_sem] min2_mn min_two

/-! ### numbers -/
def per (b : Int) : Int := 12500 * 2 ^ b.toNat
theorem per_cases {b : Int} (h0 : 0 ≤ b) (h1 : b ≤ 7) : (b = 0 ∧ per b = 12500) ∨ (b = 1 ∧ per b = 25000) ∨ (b = 2 ∧ per b = 50000) ∨ (b = 3 ∧ per b = 100000) ∨ (b = 4 ∧ per b = 200000) ∨ (b = 5 ∧ per b = 400000) ∨ (b = 6 ∧ per b = 800000) ∨ (b = 7 ∧ per b = 1600000) := by
  have : b = 0 ∨ b = 1 ∨ b = 2 ∨ b = 3 ∨ b = 4 ∨ b = 5 ∨ b = 6 ∨ b = 7 := by omega
  rcases this with rfl | rfl | rfl | rfl | rfl | rfl | rfl | rfl <;> decide
theorem per_le {b : Int} (h0 : 0 ≤ b) (h1 : b ≤ 7) : 12500 ≤ per b ∧ per b ≤ 1600000 := by
  rcases per_cases h0 h1 with h | h | h | h | h | h | h | h <;> omega
theorem per_wrap {b : Int} (h0 : 0 ≤ b) (h1 : b ≤ 7) : wrap64 (12500 * 2 ^ b.toNat) = per b := by
  have := per_le h0 h1
  unfold per at *
  unfold wrap64
  omega

/-! ### bag -/
def mayB (b : Int) : Bool := decide (0 ≤ b ∧ b ≤ 7)
theorem mayB_true {b : Int} (h : 0 ≤ b ∧ b ≤ 7) : mayB b = true := decide_eq_true h
set_option maxHeartbeats 400000 in
theorem bagmay_calls (b : Int) (w : World) (h : 0 ≤ b ∧ b ≤ 7) : Calls Try.prog 33 #[.int .i64 b] w fun e w' => e = .returned (.bool true) ∧ w = w' := by
  obtain ⟨h0, h1⟩ := h
  go_enter Try.func33, Try.ntmps33
  go_wp2
  go_ret
  exact ⟨rfl, rfl⟩
set_option maxHeartbeats 400000 in
theorem bagnew_calls (b : Int) (w : World) (h : 0 ≤ b ∧ b ≤ 7) : Calls Try.prog 30 #[.int .i64 b] w fun e w' => e = .returned (.tuple #[.pointer (some ⟨w.heap.size, 0, none⟩), .int .i64 0]) ∧ w'.cell? ⟨w.heap.size, 0, none⟩ = some (.int .u64 b) ∧ Below w.heap.size w w' := by
  have H := Aside.mk h
  obtain ⟨h0, h1⟩ := h
  go_enter Try.func30, Try.ntmps30
  go_wp2_with (go_at_call 33; refine (bagmay_calls _ _ H.out).mono ?_; rintro e w' ⟨rfl, rfl⟩)
  go_ret2
  exact ⟨rfl, (Blk.new _ _ _).cell 0, (Below.refl _ _).alloc (Nat.le_refl _) _⟩
set_option maxHeartbeats 400000 in
theorem bagperiod_calls (g : Nat) (b : Int) (w : World) (h0 : w.cell? ⟨g, 0, none⟩ = some (.int .u64 b)) (hb0 : 0 ≤ b) (hb : b ≤ 7) :
    Calls Try.prog 31 #[.pointer (some ⟨g, 0, none⟩)] w fun e w' => e = .returned (.int .i64 (per b)) ∧ w = w' := by
  have HP : Aside (wrap64 (12500 * 2 ^ b.toNat) = per b) := ⟨per_wrap hb0 hb⟩
  go_enter Try.func31, Try.ntmps31
  go_wp2
  go_ret
  exact ⟨by rw [HP.out]; rfl, rfl⟩

/-! ### a rule -/
structure Rul where
  smax : Int
  bag : Int
  jit : Int
  fr : Bool
def Rul.cells (r : Rul) : Array Value := #[.int .i64 r.smax, .int .i64 r.bag, .int .i64 r.jit, .bool r.fr]
structure Rul.ok (r : Rul) : Prop where
  s0 : 64 ≤ r.smax
  s1 : r.smax ≤ 1518
  b0 : 0 ≤ r.bag
  b1 : r.bag ≤ 7
  j0 : 0 ≤ r.jit
  j1 : r.jit ≤ 1073741824
def Rul.per (r : Rul) : Int := Ytkckfghmdkeobaa.per r.bag
theorem Rul.ok.per_le {r : Rul} (h : r.ok) : 12500 ≤ r.per ∧ r.per ≤ 1600000 := Ytkckfghmdkeobaa.per_le h.b0 h.b1
set_option maxHeartbeats 400000 in
theorem rperiod_calls (r : Rul) (w : World) (h : r.ok) : Calls Try.prog 28 #[.agg #[.int .i64 r.smax, .int .i64 r.bag, .int .i64 r.jit, .bool r.fr]] w fun e w' => e = .returned (.int .i64 r.per) ∧ Below w.heap.size w w' := by
  have H : Aside (0 ≤ r.bag ∧ r.bag ≤ 7) := ⟨h.b0, h.b1⟩
  clear h
  go_enter Try.func28, Try.ntmps28
  go_wp2_with fail
  have hba : Below w.heap.size w (w.alloc (.cells r.cells 23)) := (Below.refl _ _).alloc (Nat.le_refl _) _
  change Calls _ _ _ (w.alloc (.cells r.cells 23)) _
  generalize w.alloc (.cells r.cells 23) = wa at hba ⊢
  refine (bagnew_calls _ _ H.out).mono ?_
  rintro e w1 ⟨rfl, hc, hu⟩
  have HC := Aside.mk hc
  have HU := Aside.mk (below_then hba hba.size hu)
  clear hc hu hba
  go_wp2_with fail
  refine (bagperiod_calls _ _ _ HC.out H.out.1 H.out.2).mono ?_
  rintro e w2 ⟨rfl, rfl⟩
  go_wp2
  go_ret
  exact ⟨rfl, HU.out⟩
set_option maxHeartbeats 400000 in
theorem rticks_calls (r : Rul) (w : World) (h : r.ok) : Calls Try.prog 23 #[.agg #[.int .i64 r.smax, .int .i64 r.bag, .int .i64 r.jit, .bool r.fr]] w fun e w' => e = .returned (.int .i64 (r.per + r.jit)) ∧ Below w.heap.size w w' := by
  have H := Aside.mk h
  obtain ⟨p0, p1⟩ := h.per_le
  have j0 := h.j0
  have j1 := h.j1
  clear h
  go_enter Try.func23, Try.ntmps23
  go_wp2_with fail
  have hba : Below w.heap.size w (w.alloc (.cells r.cells 23)) := (Below.refl _ _).alloc (Nat.le_refl _) _
  have hb : Blk (w.alloc (.cells r.cells 23)) w.heap.size 23 r.cells := Blk.new _ _ _
  change Code.wp _ _ _ _ (w.alloc (.cells r.cells 23))
  generalize w.alloc (.cells r.cells 23) = wa at hba hb ⊢
  have c0 : wa.cell? ⟨w.heap.size, 0, none⟩ = some (.int .i64 r.smax) := hb.cell 0
  have c1 : wa.cell? ⟨w.heap.size, 1, none⟩ = some (.int .i64 r.bag) := hb.cell 1
  have c2 : wa.cell? ⟨w.heap.size, 2, none⟩ = some (.int .i64 r.jit) := hb.cell 2
  have c3 : wa.cell? ⟨w.heap.size, 3, none⟩ = some (.bool r.fr) := hb.cell 3
  have HBA := Aside.mk hba
  have C2 := Aside.mk c2
  clear hb hba
  have hwr : IntKind.i64.wrap (r.per + r.jit) = r.per + r.jit := IntWalk.i64_in _ (by omega)
  go_region_with (go_at_call 28; refine (rperiod_calls r _ H.out).mono ?_; rintro e w1 ⟨rfl, hu⟩; have c2' := below_cell hu C2.out; have HU := Aside.mk hu; clear hu)
  all_goals
    go_wp2
    go_ret
    exact ⟨rfl, below_then HBA.out.drew HBA.out.size HU.out⟩

def Rul.mayB (r : Rul) : Bool := decide (64 ≤ r.smax ∧ r.smax ≤ 1518 ∧ 0 ≤ r.bag ∧ r.bag ≤ 7 ∧ 0 ≤ r.jit ∧ r.jit ≤ 1073741824)
theorem Rul.mayB_true {r : Rul} (h : 64 ≤ r.smax ∧ r.smax ≤ 1518 ∧ 0 ≤ r.bag ∧ r.bag ≤ 7 ∧ 0 ≤ r.jit ∧ r.jit ≤ 1073741824) : r.mayB = true := decide_eq_true h
theorem Rul.mayB_false {r : Rul} (h : ¬ (64 ≤ r.smax ∧ r.smax ≤ 1518 ∧ 0 ≤ r.bag ∧ r.bag ≤ 7 ∧ 0 ≤ r.jit ∧ r.jit ≤ 1073741824)) : r.mayB = false := decide_eq_false h
theorem Rul.ok_of {r : Rul} (h : r.mayB = true) : r.ok := by
  have := of_decide_eq_true h
  exact ⟨by omega, by omega, by omega, by omega, by omega, by omega⟩
theorem Rul.ok.mayB {r : Rul} (h : r.ok) : r.mayB = true := Rul.mayB_true ⟨h.s0, h.s1, h.b0, h.b1, h.j0, h.j1⟩
set_option maxHeartbeats 1000000 in
theorem rmay_calls (r : Rul) (w : World) : Calls Try.prog 22 #[.agg #[.int .i64 r.smax, .int .i64 r.bag, .int .i64 r.jit, .bool r.fr]] w fun e w' => e = .returned (.bool r.mayB) ∧ Below w.heap.size w w' := by
  have HU : Aside (Below w.heap.size w (w.alloc (.cells r.cells 23))) := ⟨(Below.refl _ _).alloc (Nat.le_refl _) _⟩
  have key : (r.smax < 64) ∨ (¬ r.smax < 64 ∧ 1518 < r.smax) ∨ (¬ r.smax < 64 ∧ ¬ 1518 < r.smax ∧ r.bag < 0) ∨ (¬ r.smax < 64 ∧ ¬ 1518 < r.smax ∧ ¬ r.bag < 0 ∧ 7 < r.bag) ∨ (¬ r.smax < 64 ∧ ¬ 1518 < r.smax ∧ ¬ r.bag < 0 ∧ ¬ 7 < r.bag ∧ r.jit < 0) ∨ (¬ r.smax < 64 ∧ ¬ 1518 < r.smax ∧ ¬ r.bag < 0 ∧ ¬ 7 < r.bag ∧ ¬ r.jit < 0 ∧ 1073741824 < r.jit) ∨ (¬ r.smax < 64 ∧ ¬ 1518 < r.smax ∧ ¬ r.bag < 0 ∧ ¬ 7 < r.bag ∧ ¬ r.jit < 0 ∧ ¬ 1073741824 < r.jit) := by omega
  rcases key with h | ⟨h1, h⟩ | ⟨h1, h2, h⟩ | ⟨h1, h2, h3, h⟩ | ⟨h1, h2, h3, h4, h⟩ | ⟨h1, h2, h3, h4, h5, h⟩ | ⟨h1, h2, h3, h4, h5, h⟩
  all_goals
    go_enter Try.func22, Try.ntmps22
    go_wp2
    go_ret
    exact ⟨by first | (rw [Rul.mayB_true (by omega)]; rfl) | (rw [Rul.mayB_false (by omega)]; rfl) | (rw [Rul.mayB_true (by omega)]; simp; omega) | (rw [Rul.mayB_false (by omega)]; simp; omega), HU.out⟩

/-! ### an account -/
structure Acc where
  r : Rul
  now : Int
  left : Int
  passed : Int
  dropped : Int
def Acc.cells (s : Acc) : Array Value := #[.int .i64 s.r.smax, .int .i64 s.r.bag, .int .i64 s.r.jit, .bool s.r.fr, .int .i64 s.now, .int .i64 s.left, .int .i64 s.passed, .int .i64 s.dropped]
def Rul.full (r : Rul) : Int := r.smax * (r.per + r.jit)
theorem mul_bound {a b A B : Int} (ha : 0 ≤ a) (ha' : a ≤ A) (hb : 0 ≤ b) (hb' : b ≤ B) : 0 ≤ a * b ∧ a * b ≤ A * B :=
  ⟨Int.mul_nonneg ha hb, Int.le_trans (Int.mul_le_mul_of_nonneg_right ha' hb) (Int.mul_le_mul_of_nonneg_left hb' (by omega))⟩
theorem Rul.ok.full_le {r : Rul} (h : r.ok) : 0 ≤ r.full ∧ r.full ≤ 1632368888832 := by
  have := h.per_le
  have := mul_bound (A := 1518) (B := 1075341824) (a := r.smax) (b := r.per + r.jit) (by have := h.s0; omega) h.s1 (by have := h.j0; omega) (by have := h.j1; omega)
  unfold Rul.full
  omega
structure Acc.ok (s : Acc) : Prop where
  r : s.r.ok
  now0 : 0 ≤ s.now ∧ s.now ≤ 1125899906842624
  left0 : 0 ≤ s.left ∧ s.left ≤ s.r.full
  cnt : 0 ≤ s.passed ∧ 0 ≤ s.dropped
theorem acc_cells {w : World} {g : Nat} {s : Acc} (h : Blk w g 55 s.cells) : w.cell? ⟨g, 0, none⟩ = some (.int .i64 s.r.smax) ∧ w.cell? ⟨g, 1, none⟩ = some (.int .i64 s.r.bag) ∧ w.cell? ⟨g, 2, none⟩ = some (.int .i64 s.r.jit) ∧ w.cell? ⟨g, 3, none⟩ = some (.bool s.r.fr) ∧ w.cell? ⟨g, 4, none⟩ = some (.int .i64 s.now) ∧ w.cell? ⟨g, 5, none⟩ = some (.int .i64 s.left) ∧ w.cell? ⟨g, 6, none⟩ = some (.int .i64 s.passed) ∧ w.cell? ⟨g, 7, none⟩ = some (.int .i64 s.dropped) :=
  ⟨h.cell 0, h.cell 1, h.cell 2, h.cell 3, h.cell 4, h.cell 5, h.cell 6, h.cell 7⟩
def Acc.costOf (s : Acc) (n : Int) : Int := (if s.r.fr then s.r.smax else n) * s.r.per
theorem Acc.ok.cost_le {s : Acc} (h : s.ok) {n : Int} (h0 : 0 ≤ n) (h1 : n ≤ s.r.smax) : 0 ≤ s.costOf n ∧ s.costOf n ≤ 2428800000 := by
  have := h.r.per_le
  have := h.r.s1
  have := mul_bound (A := 1518) (B := 1600000) (a := if s.r.fr then s.r.smax else n) (b := s.r.per) (by split <;> omega) (by split <;> omega) (by omega) (by omega)
  unfold Acc.costOf
  omega
set_option maxHeartbeats 1000000 in
theorem cost_calls (g : Nat) (s : Acc) (n : Int) (w : World) (h : Blk w g 55 s.cells) (ok : s.ok) (n0 : 0 ≤ n) (n1 : n ≤ s.r.smax) : Calls Try.prog 24 #[.pointer (some ⟨g, 0, none⟩), .int .i64 n] w fun e w' => e = .returned (.int .i64 (s.costOf n)) ∧ Below w.heap.size w w' := by
  obtain ⟨h0, h1, h2, h3, h4, h5, h6, h7⟩ := acc_cells h
  have H := Aside.mk ok.r
  obtain ⟨c0, c1⟩ := ok.cost_le n0 n1
  cases hf : s.r.fr with
  | true =>
    rw [hf] at h3
    have E : Aside (s.costOf n = s.r.smax * s.r.per) := ⟨by unfold Acc.costOf; rw [hf]; rfl⟩
    rw [E.out] at c0 c1
    have HP := Aside.mk (rperiod_calls s.r)
    rw [hf] at HP
    clear hf ok h
    go_enter Try.func24, Try.ntmps24
    go_wp2_with (go_at_call 28; refine (HP.out _ H.out).mono ?_; rintro e w1 ⟨rfl, hu⟩; have HU := Aside.mk hu; clear hu)
    go_ret
    exact ⟨by rw [E.out]; rfl, HU.out⟩
  | false =>
    rw [hf] at h3
    have E : Aside (s.costOf n = n * s.r.per) := ⟨by unfold Acc.costOf; rw [hf]; rfl⟩
    rw [E.out] at c0 c1
    have HP := Aside.mk (rperiod_calls s.r)
    rw [hf] at HP
    clear hf ok h
    go_enter Try.func24, Try.ntmps24
    go_wp2_with (go_at_call 28; refine (HP.out _ H.out).mono ?_; rintro e w1 ⟨rfl, hu⟩; have HU := Aside.mk hu; clear hu)
    go_ret
    exact ⟨by rw [E.out]; rfl, HU.out⟩

def Acc.creditOf (s : Acc) (now : Int) : Int := if now ≤ s.now then s.left else if s.r.per + s.r.jit < now - s.now then s.r.full else if s.left + s.r.smax * (now - s.now) ≤ s.r.full then s.left + s.r.smax * (now - s.now) else s.r.full
set_option maxHeartbeats 400000 in
theorem credit_old (g : Nat) (s : Acc) (now : Int) (w : World) (h : Blk w g 55 s.cells) (hn : now ≤ s.now) : Calls Try.prog 15 #[.pointer (some ⟨g, 0, none⟩), .int .i64 now] w fun e w' => e = .returned (.int .i64 (s.creditOf now)) ∧ w = w' := by
  obtain ⟨h0, h1, h2, h3, h4, h5, h6, h7⟩ := acc_cells h
  have E : Aside (s.creditOf now = s.left) := ⟨if_pos hn⟩
  clear h
  go_enter Try.func15, Try.ntmps15
  go_wp2
  go_ret
  exact ⟨by rw [E.out]; rfl, rfl⟩
theorem mn_le (x y : Int) : mn x y ≤ x ∧ mn x y ≤ y ∧ (mn x y = x ∨ mn x y = y) := by unfold mn; split <;> omega
theorem credit_is {s : Acc} (ok : s.ok) {now : Int} (hn : s.now < now) : mn (s.left + s.r.smax * mn (now - s.now) (s.r.per + s.r.jit)) (s.r.smax * (s.r.per + s.r.jit)) = s.creditOf now := by
  have L := ok.left0
  unfold Acc.creditOf
  rw [if_neg (by omega)]
  by_cases c1 : s.r.per + s.r.jit < now - s.now
  · rw [if_pos c1]
    have : mn (now - s.now) (s.r.per + s.r.jit) = s.r.per + s.r.jit := if_pos c1
    rw [this]
    unfold Rul.full at *
    unfold mn
    split <;> omega
  · rw [if_neg c1]
    have : mn (now - s.now) (s.r.per + s.r.jit) = now - s.now := if_neg c1
    rw [this]
    unfold Rul.full at *
    unfold mn
    split <;> split <;> omega
theorem chain1 {w w1 : World} (h1 : Below w.drew.heap.size w.drew w1) : Below w.heap.size w w1 := ⟨h1.os, h1.tape, h1.output, h1.size, h1.block⟩
theorem chain2 {w w1 w2 : World} (h1 : Below w.drew.heap.size w.drew w1) (h2 : Below w1.heap.size w1 w2) : Below w.heap.size w w2 :=
  below_then (B := w.heap.size) (w1 := w1) ⟨h1.os, h1.tape, h1.output, h1.size, h1.block⟩ h1.size h2
set_option maxRecDepth 100000 in
set_option maxHeartbeats 2000000 in
theorem credit_new (g : Nat) (s : Acc) (now : Int) (w : World) (h : Blk w g 55 s.cells) (ok : s.ok) (hn : s.now < now) (hm : now ≤ 9223372036854775807) : Calls Try.prog 15 #[.pointer (some ⟨g, 0, none⟩), .int .i64 now] w fun e w' => e = .returned (.int .i64 (s.creditOf now)) ∧ Below w.heap.size w w' := by
  obtain ⟨h0, h1, h2, h3, h4, h5, h6, h7⟩ := acc_cells h
  have H := Aside.mk ok.r
  have n0 := ok.now0.1
  have n1 := ok.now0.2
  obtain ⟨p0, p1⟩ := ok.r.per_le
  have j0 := ok.r.j0
  have j1 := ok.r.j1
  have hw1 : IntKind.i64.wrap (now - s.now) = now - s.now := IntWalk.i64_in _ (by omega)
  have F := ok.r.full_le
  have L := ok.left0
  have m := mn_le (now - s.now) (s.r.per + s.r.jit)
  have mb := mul_bound (A := 1518) (B := 1075341824) (a := s.r.smax) (b := mn (now - s.now) (s.r.per + s.r.jit)) (by have := ok.r.s0; omega) ok.r.s1 (by omega) (by omega)
  have hw2 : IntKind.i64.wrap (s.r.smax * mn (now - s.now) (s.r.per + s.r.jit)) = s.r.smax * mn (now - s.now) (s.r.per + s.r.jit) := IntWalk.i64_in _ (by omega)
  have hw3 : IntKind.i64.wrap (s.left + s.r.smax * mn (now - s.now) (s.r.per + s.r.jit)) = s.left + s.r.smax * mn (now - s.now) (s.r.per + s.r.jit) := IntWalk.i64_in _ (by omega)
  have hw4 : IntKind.i64.wrap (s.r.smax * (s.r.per + s.r.jit)) = s.r.smax * (s.r.per + s.r.jit) := IntWalk.i64_in _ (by unfold Rul.full at F; omega)
  have E := Aside.mk (credit_is ok hn)
  have FB := Aside.mk (Below.refl w.heap.size w)
  clear h h6 h7 m mb F L
  go_enter Try.func15, Try.ntmps15
  go_wp2_with fail
  go_region_held3 (fun w' => w'.cell? ⟨g, 0, none⟩ = some (.int .i64 s.r.smax) ∧ w'.cell? ⟨g, 1, none⟩ = some (.int .i64 s.r.bag) ∧ w'.cell? ⟨g, 2, none⟩ = some (.int .i64 s.r.jit) ∧ w'.cell? ⟨g, 3, none⟩ = some (.bool s.r.fr) ∧ w'.cell? ⟨g, 4, none⟩ = some (.int .i64 s.now) ∧ w'.cell? ⟨g, 5, none⟩ = some (.int .i64 s.left))
    (first
      | go_keep
      | (go_split_ands
         refine ⟨?_, ?_, ?_, ?_, ?_, ?_⟩ <;> exact below_cell hu (by assumption)))
    (first | (go_at_call 23; refine (rticks_calls s.r _ H.out).mono ?_; rintro e w1 ⟨rfl, hu⟩))
  all_goals
    go_wp2
    go_ret
    exact ⟨by rw [← E.out]; rfl, chain2 (by assumption) hu⟩
theorem credit_calls (g : Nat) (s : Acc) (now : Int) (w : World) (h : Blk w g 55 s.cells) (ok : s.ok) (hm : now ≤ 9223372036854775807) : Calls Try.prog 15 #[.pointer (some ⟨g, 0, none⟩), .int .i64 now] w fun e w' => e = .returned (.int .i64 (s.creditOf now)) ∧ Below w.heap.size w w' := by
  by_cases hn : now ≤ s.now
  · exact (credit_old g s now w h hn).mono fun e w' ⟨he, hw⟩ => ⟨he, by subst hw; exact Below.refl _ _⟩
  · exact credit_new g s now w h ok (by omega) hm
theorem credit_range {s : Acc} (ok : s.ok) (now : Int) : 0 ≤ s.creditOf now ∧ s.creditOf now ≤ s.r.full := by
  have L := ok.left0
  have F := ok.r.full_le
  have s0 := ok.r.s0
  unfold Acc.creditOf
  split
  · omega
  · rename_i h
    split
    · omega
    · have := Int.mul_nonneg (show 0 ≤ s.r.smax by omega) (show 0 ≤ now - s.now by omega)
      split <;> omega
set_option maxHeartbeats 400000 in
theorem passed_calls (g : Nat) (s : Acc) (w : World) (h : Blk w g 55 s.cells) : Calls Try.prog 19 #[.pointer (some ⟨g, 0, none⟩)] w fun e w' => e = .returned (.tuple #[.int .i64 s.passed, .int .i64 s.dropped]) ∧ ∃ n, w' = w.drewN n := by
  obtain ⟨h0, h1, h2, h3, h4, h5, h6, h7⟩ := acc_cells h
  clear h h0 h1 h2 h3 h4 h5
  go_enter Try.func19, Try.ntmps19
  go_wp2
  go_quiet (fail)
  go_wp2
  go_ret2
  exact ⟨rfl, _, rfl⟩
set_option maxHeartbeats 400000 in
theorem passed_nil (w : World) : Calls Try.prog 19 #[.pointer none] w fun e w' => e = .returned (.tuple #[.int .i64 0, .int .i64 0]) ∧ w = w' := by
  go_enter Try.func19, Try.ntmps19
  go_wp2
  go_ret2
  exact ⟨rfl, rfl⟩
set_option maxHeartbeats 400000 in
theorem credit_nil (now : Int) (w : World) : Calls Try.prog 15 #[.pointer none, .int .i64 now] w fun e w' => e = .returned (.int .i64 0) ∧ w = w' := by
  go_enter Try.func15, Try.ntmps15
  go_wp2
  go_ret
  exact ⟨rfl, rfl⟩
set_option maxHeartbeats 400000 in
theorem take_nil (now n : Int) (w : World) : Calls Try.prog 14 #[.pointer none, .int .i64 now, .int .i64 n] w fun e w' => e = .returned (.int .i64 2) ∧ w = w' := by
  go_enter Try.func14, Try.ntmps14
  go_wp2
  go_ret
  exact ⟨rfl, rfl⟩
/-! ### New -/
def Acc.new (r : Rul) : Acc := ⟨r, 0, r.full, 0, 0⟩
theorem Acc.new_ok {r : Rul} (h : r.ok) : (Acc.new r).ok := ⟨h, by simp [Acc.new], ⟨h.full_le.1, Int.le_refl _⟩, by simp [Acc.new]⟩
set_option maxHeartbeats 400000 in
theorem new_no (r : Rul) (w : World) (h : r.mayB = false) : Calls Try.prog 10 #[.agg #[.int .i64 r.smax, .int .i64 r.bag, .int .i64 r.jit, .bool r.fr]] w fun e w' => e = .returned (.tuple #[.pointer none, .int .i64 1]) ∧ Below w.heap.size w w' := by
  have H := Aside.mk h
  clear h
  go_enter Try.func10, Try.ntmps10
  go_wp2_with fail
  have hba : Below w.heap.size w (w.alloc (.cells r.cells 23)) := (Below.refl _ _).alloc (Nat.le_refl _) _
  change Calls _ _ _ (w.alloc (.cells r.cells 23)) _
  generalize w.alloc (.cells r.cells 23) = wa at hba ⊢
  have HBA := Aside.mk hba
  clear hba
  refine (rmay_calls r _).mono ?_
  rintro e w1 ⟨rfl, hu⟩
  rw [H.out]
  have HU := Aside.mk hu
  clear hu
  go_wp2
  go_ret2
  exact ⟨rfl, below_then HBA.out HBA.out.size HU.out⟩
set_option maxRecDepth 100000 in
set_option maxHeartbeats 1000000 in
theorem new_yes (r : Rul) (w : World) (h : r.ok) : Calls Try.prog 10 #[.agg #[.int .i64 r.smax, .int .i64 r.bag, .int .i64 r.jit, .bool r.fr]] w fun e w' => ∃ g, e = .returned (.tuple #[.pointer (some ⟨g, 0, none⟩), .int .i64 0]) ∧ w.heap.size ≤ g ∧ Blk w' g 55 (Acc.new r).cells ∧ Below w.heap.size w w' := by
  have H := Aside.mk h.mayB
  have HO := Aside.mk h
  have F := h.full_le
  have hwf : IntKind.i64.wrap (r.smax * (r.per + r.jit)) = r.smax * (r.per + r.jit) := IntWalk.i64_in _ (by unfold Rul.full at F; omega)
  clear h F
  go_enter Try.func10, Try.ntmps10
  go_wp2_with fail
  have hba : Below w.heap.size w (w.alloc (.cells r.cells 23)) := (Below.refl _ _).alloc (Nat.le_refl _) _
  have hb : Blk (w.alloc (.cells r.cells 23)) w.heap.size 23 r.cells := Blk.new _ _ _
  change Calls _ _ _ (w.alloc (.cells r.cells 23)) _
  generalize w.alloc (.cells r.cells 23) = wa at hba hb ⊢
  have HBA := Aside.mk hba
  have HB := Aside.mk hb
  clear hba hb
  refine (rmay_calls r _).mono ?_
  rintro e w1 ⟨rfl, hu⟩
  rw [H.out]
  have HU := Aside.mk hu
  have c0 : w1.cell? ⟨w.heap.size, 0, none⟩ = some (.int .i64 r.smax) := below_cell hu (HB.out.cell 0)
  have c1 : w1.cell? ⟨w.heap.size, 1, none⟩ = some (.int .i64 r.bag) := below_cell hu (HB.out.cell 1)
  have c2 : w1.cell? ⟨w.heap.size, 2, none⟩ = some (.int .i64 r.jit) := below_cell hu (HB.out.cell 2)
  have c3 : w1.cell? ⟨w.heap.size, 3, none⟩ = some (.bool r.fr) := below_cell hu (HB.out.cell 3)
  clear hu
  go_wp2_with fail
  go_region_held3 (fun w' => w'.cell? ⟨w.heap.size, 0, none⟩ = some (.int .i64 r.smax) ∧ w'.cell? ⟨w.heap.size, 1, none⟩ = some (.int .i64 r.bag) ∧ w'.cell? ⟨w.heap.size, 2, none⟩ = some (.int .i64 r.jit) ∧ w'.cell? ⟨w.heap.size, 3, none⟩ = some (.bool r.fr))
    (first
      | go_keep
      | (go_split_ands
         refine ⟨?_, ?_, ?_, ?_⟩ <;> exact below_cell hv (by assumption)))
    (first | (go_at_call 23; refine (rticks_calls r _ HO.out).mono ?_; rintro e w2 ⟨rfl, hv⟩))
  all_goals
    go_wp2
    go_ret2
    have hz : w.heap.size ≤ w2.heap.size := Nat.le_trans HBA.out.size (Nat.le_trans HU.out.size hv.size)
    refine ⟨_, rfl, hz, Blk.new _ _ _, ?_⟩
    exact (below_then (below_then HBA.out HBA.out.size HU.out) (Nat.le_trans HBA.out.size HU.out.size) (chain1 hv)).alloc hz _
end Go.Proofs.Ytkckfghmdkeobaa
