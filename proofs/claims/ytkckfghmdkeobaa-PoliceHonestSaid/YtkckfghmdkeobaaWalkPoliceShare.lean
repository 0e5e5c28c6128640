/- The walk of PoliceShare, and why no more than the share passes. Conditions: none. -/
import Derived.Test.YtkckfghmdkeobaaRefP
namespace Go.Proofs.Ytkckfghmdkeobaa
open Go.RowKit
set_option linter.unusedVariables false
theorem credit_le {s : Acc} (ok : s.ok) {now : Int} (hn : s.now ≤ now) : s.creditOf now ≤ s.r.full ∧ s.creditOf now ≤ s.left + (s.r.smax * now - s.r.smax * s.now) := by
  have c := credit_range ok now
  have L := ok.left0
  have s0 := ok.r.s0
  refine ⟨c.2, ?_⟩
  rw [← Int.mul_sub]
  have hnn := Int.mul_nonneg (show 0 ≤ s.r.smax by omega) (show 0 ≤ now - s.now by omega)
  unfold Acc.creditOf
  split
  · omega
  split
  · rename_i h1 h2
    have := Int.mul_le_mul_of_nonneg_left (show s.r.per + s.r.jit ≤ now - s.now by omega) (show 0 ≤ s.r.smax by omega)
    unfold Rul.full
    omega
  split <;> omega
/-- How many bytes passed in the interval from A on, T long. -/
structure Share (A T : Int) (s : Acc) (n : Int) : Prop where
  n0 : 0 ≤ n
  all : n * s.r.per ≤ s.r.full + s.r.smax * T
  ahead : s.now < A → n = 0
  inside : A ≤ s.now → s.now ≤ A + T → n * s.r.per + s.left ≤ s.r.full + (s.r.smax * s.now - s.r.smax * A)
theorem Share.new {r : Rul} (h : r.ok) {A T : Int} (hA : 0 ≤ A) (hT : 0 ≤ T) : Share A T (Acc.new r) 0 := by
  have f := h.full_le
  have := Int.mul_nonneg (show 0 ≤ r.smax by have := h.s0; omega) hT
  refine ⟨by omega, ?_, fun _ => rfl, fun h1 h2 => ?_⟩
  · show 0 * r.per ≤ r.full + r.smax * T
    omega
  · show 0 * r.per + r.full ≤ r.full + (r.smax * 0 - r.smax * A)
    have : A = 0 := by have : (Acc.new r).now = 0 := rfl; omega
    subst this
    omega
theorem Share.key {A T : Int} {s : Acc} {n : Int} (h : Share A T s n) (ok : s.ok) {now : Int} (hn : s.now ≤ now) (h1 : A ≤ now) : n * s.r.per + s.creditOf now ≤ s.r.full + (s.r.smax * now - s.r.smax * A) ∨ A + T < s.now := by
  have c := credit_le ok hn
  by_cases h2 : s.now < A
  · have := h.ahead h2
    subst this
    left
    have := Int.mul_le_mul_of_nonneg_left h1 (show 0 ≤ s.r.smax by have := ok.r.s0; omega)
    omega
  · by_cases h3 : s.now ≤ A + T
    · have := h.inside (by omega) h3
      left
      omega
    · right
      omega
theorem Share.drops {A T : Int} {s : Acc} {n : Int} (h : Share A T s n) (ok : s.ok) {now : Int} (hn : s.now ≤ now) {d : Int} : Share A T { s.to now with dropped := d } n := by
  refine ⟨h.n0, h.all, fun h1 => h.ahead (by have : ({ s.to now with dropped := d } : Acc).now = now := rfl; omega), fun h1 h2 => ?_⟩
  have e : ({ s.to now with dropped := d } : Acc).now = now := rfl
  rw [e] at h1 h2
  show n * s.r.per + s.creditOf now ≤ s.r.full + (s.r.smax * now - s.r.smax * A)
  rcases h.key ok hn h1 with hk | hk
  · exact hk
  · omega
theorem Share.goes {A T : Int} {s : Acc} {n : Int} (h : Share A T s n) (ok : s.ok) {now b : Int} (he : s.err now b = 0) : Share A T (s.take now b) (if A ≤ now ∧ now ≤ A + T then n + b else n) := by
  obtain ⟨f0, f1, f2, f3, f4, f5⟩ := Acc.err_zero he
  have p := ok.r.per_le
  have cost : b * s.r.per ≤ s.costOf b := by
    unfold Acc.costOf
    split
    · exact Int.mul_le_mul_of_nonneg_right f4 (by omega)
    · exact Int.le_refl _
  have s0 := ok.r.s0
  rw [Acc.take_zero he]
  by_cases hin : A ≤ now ∧ now ≤ A + T
  · rw [if_pos hin]
    have key : (n + b) * s.r.per + (s.creditOf now - s.costOf b) ≤ s.r.full + (s.r.smax * now - s.r.smax * A) := by
      rw [Int.add_mul]
      rcases h.key ok f3 hin.1 with hk | hk
      · omega
      · omega
    have hT : s.r.smax * now - s.r.smax * A ≤ s.r.smax * T := by
      rw [← Int.mul_sub]
      exact Int.mul_le_mul_of_nonneg_left (by omega) (by omega)
    refine ⟨by have := h.n0; omega, ?_, ?_, ?_⟩
    · show (n + b) * s.r.per ≤ s.r.full + s.r.smax * T
      omega
    · intro h1
      have : (now : Int) < A := h1
      omega
    · intro _ _
      exact key
  · rw [if_neg hin]
    refine ⟨h.n0, h.all, ?_, ?_⟩
    · intro h1
      have : (now : Int) < A := h1
      exact h.ahead (by omega)
    · intro h1 h2
      have : A ≤ (now : Int) := h1
      have : (now : Int) ≤ A + T := h2
      omega
theorem Share.take {A T : Int} {s : Acc} {n : Int} (h : Share A T s n) (ok : s.ok) {now b : Int} (he : ¬ s.err now b = 0) : Share A T (s.take now b) n := by
  unfold Acc.take
  unfold Acc.err at he
  split
  · exact h
  rename_i hb
  rw [if_neg hb] at he
  split
  · exact h
  rename_i ht
  rw [if_neg ht] at he
  split
  · exact h.drops ok (by omega)
  split
  · exact h.drops ok (by omega)
  · rename_i h1 h2
    rw [if_neg h1, if_neg h2] at he
    exact absurd rfl he
set_option maxRecDepth 100000 in
set_option maxHeartbeats 2000000 in
theorem policeShare_yes (r : Rul) (a : Option Addr) (len cap : Nat) (L : Nat → Int × Int) (A T : Int) (w : World) (hr : r.ok) (hs : Sl w a len 2 isOp L) (hA : 0 ≤ A ∧ A ≤ 1099511627776) (hT : 0 ≤ T ∧ T ≤ 1099511627776) :
    Calls Try.prog 3 #[.agg #[.int .i64 r.smax, .int .i64 r.bag, .int .i64 r.jit, .bool r.fr], .slice a len cap, .agg #[.int .i64 A, .int .i64 T]] w fun e w' => e = .returned (.bool true) ∧ Below w.heap.size w w' := by
  have HR := Aside.mk hr
  have HS := Aside.mk hs.ops
  have hm := hs.1
  unfold maxLen at hm
  obtain ⟨p0, p1⟩ := hr.per_le
  have SH0 := Aside.mk (Share.new hr hA.1 hT.1)
  obtain ⟨A0, A1⟩ := hA
  obtain ⟨T0, T1⟩ := hT
  clear hr hs
  go_enter Try.func3, Try.ntmps3
  go_wp2_with fail
  have hba : Below w.heap.size w ((w.alloc (.cells r.cells 23)).alloc (.cells #[.int .i64 A, .int .i64 T] 25)) := ((Below.refl _ _).alloc (Nat.le_refl _) _).alloc (by simp) _
  have hb : Blk ((w.alloc (.cells r.cells 23)).alloc (.cells #[.int .i64 A, .int .i64 T] 25)) w.heap.size 23 r.cells := (Blk.new _ _ _).alloc _
  have hb2 : Blk ((w.alloc (.cells r.cells 23)).alloc (.cells #[.int .i64 A, .int .i64 T] 25)) (w.heap.size + 1) 25 #[.int .i64 A, .int .i64 T] := by simpa using Blk.new (w.alloc (.cells r.cells 23)) 25 #[.int .i64 A, .int .i64 T]
  change Calls _ _ _ ((w.alloc (.cells r.cells 23)).alloc (.cells #[.int .i64 A, .int .i64 T] 25)) _
  generalize (w.alloc (.cells r.cells 23)).alloc (.cells #[.int .i64 A, .int .i64 T] 25) = wa at hba hb hb2 ⊢
  have HA := Aside.mk hba
  have HC := Aside.mk hb
  have HD := Aside.mk hb2
  clear hba hb hb2
  refine (new_yes r _ HR.out).mono ?_
  rintro e w1 ⟨g, rfl, hg, hb, hu⟩
  have H0 := Aside.mk (At.new HR.out hb hu)
  have HG := Aside.mk hg
  have k0 : w1.cell? ⟨w.heap.size + 1, 0, none⟩ = some (.int .i64 A) := (HD.out.below hu).cell 0
  have k1 : w1.cell? ⟨w.heap.size + 1, 1, none⟩ = some (.int .i64 T) := (HD.out.below hu).cell 1
  have k2 : w1.cell? ⟨w.heap.size, 0, none⟩ = some (.int .i64 r.smax) := (HC.out.below hu).cell 0
  have k3 : w1.cell? ⟨w.heap.size, 1, none⟩ = some (.int .i64 r.bag) := (HC.out.below hu).cell 1
  have k4 : w1.cell? ⟨w.heap.size, 2, none⟩ = some (.int .i64 r.jit) := (HC.out.below hu).cell 2
  have k5 : w1.cell? ⟨w.heap.size, 3, none⟩ = some (.bool r.fr) := (HC.out.below hu).cell 3
  clear hb hu hg
  go_wp2_with fail
  refine (plain_calls r _).mono ?_
  rintro e w2 ⟨rfl, hu⟩
  have H1 := Aside.mk (H0.out.then hu)
  clear hu k0 k1 k2 k3 k4 k5
  go_wp2_with fail
  refine (refperiod_calls r _ HR.out).mono ?_
  rintro e w3 ⟨rfl, hu⟩
  have H2 := Aside.mk (H1.out.then hu)
  clear hu
  go_wp2_with fail
  go_loopw [10, 11] (fun vn i wr => ∃ (k : Nat) (s : Acc) (n : Int), k ≤ len ∧ k ≤ 300 ∧ i = .int .i64 k ∧ vn = .int .i64 n ∧ Aside (At wa g wr s k ∧ s.r = r ∧ Share A T s n ∧ n ≤ 1518 * k)) (fun _ i _ => len - (intOf i).toNat)
  case atStart => exact ⟨0, _, 0, by omega, by omega, rfl, rfl, H2.out, rfl, SH0.out, by omega⟩
  case round =>
    clear H0 H1 H2 SH0
    obtain ⟨k, s, n, hk, hk100, rfl, rfl, HT⟩ := hrel
    by_cases hlt : k < len
    · by_cases hlt2 : k < 300
      · obtain ⟨b, off, ha, hcell0, hcell1, hL0, hL1⟩ := HS.out k hlt
        subst ha
        have hc0 := below_cell HT.out.1.below (below_cell HA.out hcell0)
        have hc1 := below_cell HT.out.1.below (below_cell HA.out hcell1)
        clear hcell0 hcell1
        generalize (L k).1 = now at *
        generalize (L k).2 = bytes at *
        go_wp2_with fail
        have H1 := Aside.mk (HT.out.1.then ((Below.refl _ _).alloc (Nat.le_refl _) (.cells #[.int .i64 now, .int .i64 bytes] 35)))
        have HX : Aside (Blk (wr.alloc (.cells #[.int .i64 now, .int .i64 bytes] 35)) wr.heap.size 35 #[.int .i64 now, .int .i64 bytes] ∧ g < wr.heap.size) := ⟨Blk.new _ _ _, HT.out.1.blk.lt⟩
        generalize wr.alloc (.cells #[.int .i64 now, .int .i64 bytes] 35) = wb at H1 HX ⊢
        clear hc0 hc1
        refine (take_calls _ s _ _ _ H1.out.blk H1.out.ok (by have := H1.out.passed; omega) (by have := H1.out.dropped; omega)).mono ?_
        rintro e w4 ⟨rfl, hb, hu⟩
        have H2 := Aside.mk (H1.out.upon HG.out hb (Acc.take_ok H1.out.ok now bytes) (s.take_cnt now bytes).1 (s.take_cnt now bytes).2.1 hu)
        have HX2 := Aside.mk (hu.blk HX.out.1 (by have := HX.out.2; omega))
        have x0 : w4.cell? ⟨wr.heap.size, 0, none⟩ = some (.int .i64 now) := HX2.out.cell 0
        have x1 : w4.cell? ⟨wr.heap.size, 1, none⟩ = some (.int .i64 bytes) := HX2.out.cell 1
        have y0 : w4.cell? ⟨w.heap.size + 1, 0, none⟩ = some (.int .i64 A) := (HD.out.below H2.out.below).cell 0
        have y1 : w4.cell? ⟨w.heap.size + 1, 1, none⟩ = some (.int .i64 T) := (HD.out.below H2.out.below).cell 1
        have hrr := (s.take_cnt now bytes).2.2.trans HT.out.2.1
        have hn0 := HT.out.2.2.1.n0
        have hn1 := HT.out.2.2.2
        clear hb hu
        cases he : (s.err now bytes == 0) with
        | false =>
          have e0 : ¬ s.err now bytes = 0 := by simpa using he
          have HF : Aside (At wa g w4 (s.take now bytes) (k + 1) ∧ (s.take now bytes).r = r ∧ Share A T (s.take now bytes) n ∧ n ≤ 1518 * ((k + 1 : Nat) : Int)) := ⟨H2.out, hrr, HT.out.2.2.1.take HT.out.1.ok e0, by push_cast; omega⟩
          clear e0
          go_wp2
          go_roundw
          case rel => exact ⟨k + 1, _, _, by omega, by omega, by go_num, rfl, HF⟩
          case measure => simp [intOf]; omega
        | true =>
          have e0 : s.err now bytes = 0 := by simpa using he
          obtain ⟨f0, f1, f2, f3, f4, f5⟩ := Acc.err_zero e0
          have s1 := HT.out.1.ok.r.s1
          have SG := HT.out.2.2.1.goes HT.out.1.ok e0
          have HF : Aside (At wa g w4 (s.take now bytes) (k + 1) ∧ (s.take now bytes).r = r ∧ Share A T (s.take now bytes) (if A ≤ now ∧ now ≤ A + T then n + bytes else n) ∧ (if A ≤ now ∧ now ≤ A + T then n + bytes else n) ≤ 1518 * ((k + 1 : Nat) : Int)) := ⟨H2.out, hrr, SG, by push_cast; split <;> omega⟩
          rw [e0]
          clear he e0 SG f3 f5 hrr
          by_cases q1 : A ≤ now
          · by_cases q2 : now ≤ A + T
            · rw [if_pos ⟨q1, q2⟩] at HF
              go_wp2
              go_roundw
              case rel => exact ⟨k + 1, _, _, by omega, by omega, by go_num, rfl, HF⟩
              case measure => simp [intOf]; omega
            · rw [if_neg (by omega)] at HF
              go_wp2
              go_roundw
              case rel => exact ⟨k + 1, _, _, by omega, by omega, by go_num, rfl, HF⟩
              case measure => simp [intOf]; omega
          · rw [if_neg (by omega)] at HF
            go_wp2
            go_roundw
            case rel => exact ⟨k + 1, _, _, by omega, by omega, by go_num, rfl, HF⟩
            case measure => simp [intOf]; omega
      · have hn0 := HT.out.2.2.1.n0
        have hn1 := HT.out.2.2.2
        have hall := HT.out.2.2.1.all
        rw [HT.out.2.1] at hall
        have HALL : Aside (n * r.per ≤ r.smax * (r.per + r.jit + T)) := ⟨by rw [Int.mul_add]; exact hall⟩
        have j0 := HR.out.j0
        have j1 := HR.out.j1
        have s0 := HR.out.s0
        have s1 := HR.out.s1
        obtain ⟨m0, m1⟩ := mul_bound (A := 455400) (B := 1600000) (a := n) (b := r.per) hn0 (by omega) (by omega) p1
        obtain ⟨m2, m3⟩ := mul_bound (A := 1518) (B := 1100586969600) (a := r.smax) (b := r.per + r.jit + T) (by omega) s1 (by omega) (by omega)
        have y1 : wr.cell? ⟨w.heap.size + 1, 1, none⟩ = some (.int .i64 T) := (HD.out.below HT.out.1.below).cell 1
        have z0 : wr.cell? ⟨w.heap.size, 0, none⟩ = some (.int .i64 r.smax) := (HC.out.below HT.out.1.below).cell 0
        have z2 : wr.cell? ⟨w.heap.size, 2, none⟩ = some (.int .i64 r.jit) := (HC.out.below HT.out.1.below).cell 2
        have hal := HALL.out
        clear hall
        go_wp2_with fail
        refine (awake_calls _).mono ?_
        rintro e w6 ⟨rfl, hu⟩
        have U6 := Aside.mk hu
        clear hu
        go_wp2
        go_ret
        exact ⟨rfl, below_then (below_then HA.out HA.out.size HT.out.1.below) (Nat.le_trans HA.out.size HT.out.1.below.size) U6.out⟩
    · have hn0 := HT.out.2.2.1.n0
      have hn1 := HT.out.2.2.2
      have hall := HT.out.2.2.1.all
      rw [HT.out.2.1] at hall
      have HALL : Aside (n * r.per ≤ r.smax * (r.per + r.jit + T)) := ⟨by rw [Int.mul_add]; exact hall⟩
      have j0 := HR.out.j0
      have j1 := HR.out.j1
      have s0 := HR.out.s0
      have s1 := HR.out.s1
      obtain ⟨m0, m1⟩ := mul_bound (A := 455400) (B := 1600000) (a := n) (b := r.per) hn0 (by omega) (by omega) p1
      obtain ⟨m2, m3⟩ := mul_bound (A := 1518) (B := 1100586969600) (a := r.smax) (b := r.per + r.jit + T) (by omega) s1 (by omega) (by omega)
      have y1 : wr.cell? ⟨w.heap.size + 1, 1, none⟩ = some (.int .i64 T) := (HD.out.below HT.out.1.below).cell 1
      have z0 : wr.cell? ⟨w.heap.size, 0, none⟩ = some (.int .i64 r.smax) := (HC.out.below HT.out.1.below).cell 0
      have z2 : wr.cell? ⟨w.heap.size, 2, none⟩ = some (.int .i64 r.jit) := (HC.out.below HT.out.1.below).cell 2
      have hal := HALL.out
      clear hall
      go_wp2_with fail
      refine (awake_calls _).mono ?_
      rintro e w6 ⟨rfl, hu⟩
      have U6 := Aside.mk hu
      clear hu
      go_wp2
      go_ret
      exact ⟨rfl, below_then (below_then HA.out HA.out.size HT.out.1.below) (Nat.le_trans HA.out.size HT.out.1.below.size) U6.out⟩
set_option maxRecDepth 100000 in
set_option maxHeartbeats 1000000 in
theorem policeShare_no (r : Rul) (a : Option Addr) (len cap : Nat) (A T : Int) (w : World) (hr : r.mayB = false) :
    Calls Try.prog 3 #[.agg #[.int .i64 r.smax, .int .i64 r.bag, .int .i64 r.jit, .bool r.fr], .slice a len cap, .agg #[.int .i64 A, .int .i64 T]] w fun e w' => e = .returned (.bool true) ∧ Below w.heap.size w w' := by
  have HR := Aside.mk hr
  clear hr
  go_enter Try.func3, Try.ntmps3
  go_wp2_with fail
  have hba : Below w.heap.size w ((w.alloc (.cells r.cells 23)).alloc (.cells #[.int .i64 A, .int .i64 T] 25)) := ((Below.refl _ _).alloc (Nat.le_refl _) _).alloc (by simp) _
  have hb2 : Blk ((w.alloc (.cells r.cells 23)).alloc (.cells #[.int .i64 A, .int .i64 T] 25)) (w.heap.size + 1) 25 #[.int .i64 A, .int .i64 T] := by simpa using Blk.new (w.alloc (.cells r.cells 23)) 25 #[.int .i64 A, .int .i64 T]
  change Calls _ _ _ ((w.alloc (.cells r.cells 23)).alloc (.cells #[.int .i64 A, .int .i64 T] 25)) _
  generalize (w.alloc (.cells r.cells 23)).alloc (.cells #[.int .i64 A, .int .i64 T] 25) = wa at hba hb2 ⊢
  have HA := Aside.mk hba
  have HD := Aside.mk hb2
  clear hba hb2
  refine (new_no r _ HR.out).mono ?_
  rintro e w1 ⟨rfl, hu⟩
  have HU := Aside.mk hu
  clear hu
  go_wp2_with (go_at_call 11; refine (awake_calls _).mono ?_; rintro e w' ⟨rfl, hb⟩)
  go_ret
  exact ⟨rfl, below_then (below_then HA.out HA.out.size HU.out) (Nat.le_trans HA.out.size HU.out.size) (by assumption)⟩
set_option maxRecDepth 100000 in
set_option maxHeartbeats 1000000 in
theorem policeShare_out (r : Rul) (a : Option Addr) (len cap : Nat) (A T : Int) (w : World) (hr : r.ok) (h : A < 0 ∨ (¬ A < 0 ∧ 1099511627776 < A) ∨ (¬ A < 0 ∧ ¬ 1099511627776 < A ∧ T < 0) ∨ (¬ A < 0 ∧ ¬ 1099511627776 < A ∧ ¬ T < 0 ∧ 1099511627776 < T)) :
    Calls Try.prog 3 #[.agg #[.int .i64 r.smax, .int .i64 r.bag, .int .i64 r.jit, .bool r.fr], .slice a len cap, .agg #[.int .i64 A, .int .i64 T]] w fun e w' => e = .returned (.bool true) ∧ Below w.heap.size w w' := by
  have HR := Aside.mk hr
  clear hr
  rcases h with h | ⟨h1, h⟩ | ⟨h1, h2, h⟩ | ⟨h1, h2, h3, h⟩
  all_goals
    go_enter Try.func3, Try.ntmps3
    go_wp2_with fail
    have hba : Below w.heap.size w ((w.alloc (.cells r.cells 23)).alloc (.cells #[.int .i64 A, .int .i64 T] 25)) := ((Below.refl _ _).alloc (Nat.le_refl _) _).alloc (by simp) _
    have hb2 : Blk ((w.alloc (.cells r.cells 23)).alloc (.cells #[.int .i64 A, .int .i64 T] 25)) (w.heap.size + 1) 25 #[.int .i64 A, .int .i64 T] := by simpa using Blk.new (w.alloc (.cells r.cells 23)) 25 #[.int .i64 A, .int .i64 T]
    change Calls _ _ _ ((w.alloc (.cells r.cells 23)).alloc (.cells #[.int .i64 A, .int .i64 T] 25)) _
    generalize (w.alloc (.cells r.cells 23)).alloc (.cells #[.int .i64 A, .int .i64 T] 25) = wa at hba hb2 ⊢
    have HA := Aside.mk hba
    have HD := Aside.mk hb2
    clear hba hb2
    refine (new_yes r _ HR.out).mono ?_
    rintro e w1 ⟨g, rfl, hg, hb, hu⟩
    have HU := Aside.mk hu
    have k0 : w1.cell? ⟨w.heap.size + 1, 0, none⟩ = some (.int .i64 A) := (HD.out.below hu).cell 0
    have k1 : w1.cell? ⟨w.heap.size + 1, 1, none⟩ = some (.int .i64 T) := (HD.out.below hu).cell 1
    clear hu hb hg
    go_wp2_with (go_at_call 11; refine (awake_calls _).mono ?_; rintro e w' ⟨rfl, hb⟩)
    go_ret
    exact ⟨rfl, below_then (below_then HA.out HA.out.size HU.out) (Nat.le_trans HA.out.size HU.out.size) (by assumption)⟩
theorem policeShare_walk (r : Rul) (a : Option Addr) (len cap : Nat) (L : Nat → Int × Int) (A T : Int) (w : World) (_ : (-9223372036854775808 ≤ r.smax ∧ r.smax ≤ 9223372036854775807) ∧ (-9223372036854775808 ≤ r.bag ∧ r.bag ≤ 9223372036854775807) ∧ (-9223372036854775808 ≤ r.jit ∧ r.jit ≤ 9223372036854775807)) (hs : Sl w a len 2 isOp L) (_ : -9223372036854775808 ≤ A ∧ A ≤ 9223372036854775807) (_ : -9223372036854775808 ≤ T ∧ T ≤ 9223372036854775807) :
    Calls Try.prog 3 #[.agg #[.int .i64 r.smax, .int .i64 r.bag, .int .i64 r.jit, .bool r.fr], .slice a len cap, .agg #[.int .i64 A, .int .i64 T]] w fun e w' => e = .returned (.bool true) ∧ Below w.heap.size w w' := by
  cases hr : r.mayB with
  | false => exact policeShare_no r a len cap A T w hr
  | true =>
    by_cases h : A < 0 ∨ (¬ A < 0 ∧ 1099511627776 < A) ∨ (¬ A < 0 ∧ ¬ 1099511627776 < A ∧ T < 0) ∨ (¬ A < 0 ∧ ¬ 1099511627776 < A ∧ ¬ T < 0 ∧ 1099511627776 < T)
    · exact policeShare_out r a len cap A T w (Rul.ok_of hr) h
    · exact policeShare_yes r a len cap L A T w (Rul.ok_of hr) hs (by omega) (by omega)
end Go.Proofs.Ytkckfghmdkeobaa
