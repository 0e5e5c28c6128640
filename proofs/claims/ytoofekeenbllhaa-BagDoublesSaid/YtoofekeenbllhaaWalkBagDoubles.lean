/- The walk of BagDoubles. Conditions: none. -/
import Derived.Test.YtoofekeenbllhaaAwake
namespace Go.Proofs.Ytoofekeenbllhaa
open Go.RowKit
set_option linter.unusedVariables false
def NewSome (w : World) (e : Ending) (w' : World) : Prop := ∃ (v : Value) (k : Int), e = .returned (.tuple #[v, .int .i64 k]) ∧ Below w.heap.size w w'
theorem new_some (b : Int) (w : World) : Calls Try.prog 12 #[.int .i64 b] w (NewSome w) := by
  by_cases h : 0 ≤ b ∧ b ≤ 7
  · exact (new_yes b w h).mono fun e w' ⟨he, _, hb⟩ => ⟨_, _, he, hb⟩
  · exact (new_no b w h).mono fun e w' ⟨he, hw⟩ => ⟨_, _, he, by subst hw; exact Below.refl _ _⟩
theorem below2 {w w1 w2 w3 : World} (h1 : Below w.heap.size w w1) (h2 : Below w1.heap.size w1 w2) (h3 : Below w2.heap.size w2 w3) : Below w.heap.size w w3 :=
  below_then (below_then h1 h1.size h2) (Nat.le_trans h1.size h2.size) h3
set_option maxRecDepth 100000 in
set_option maxHeartbeats 400000 in
theorem bagDoubles_no (n t : Int) (w : World) (h : n < 0 ∨ 6 < n ∨ t < 0 ∨ 562949953421312 < t) : Calls Try.prog 5 #[.int .i64 n, .int .i64 t] w fun e w' => e = .returned (.bool true) ∧ Below w.heap.size w w' := by
  have main : ∀ (x : Prop) (_ : x), (x → n < 0 ∨ (¬ n < 0 ∧ 6 < n) ∨ (¬ n < 0 ∧ ¬ 6 < n ∧ t < 0) ∨ (¬ n < 0 ∧ ¬ 6 < n ∧ ¬ t < 0 ∧ 562949953421312 < t)) → Calls Try.prog 5 #[.int .i64 n, .int .i64 t] w fun e w' => e = .returned (.bool true) ∧ Below w.heap.size w w' := by
    intro x hx hc
    rcases hc hx with h | ⟨h1, h⟩ | ⟨h1, h2, h⟩ | ⟨h1, h2, h3, h⟩
    all_goals
      clear hc hx
      go_enter Try.func5, Try.ntmps5
      go_wp2_with fail
      refine (new_some _ _).mono ?_
      rintro e w1 ⟨v1, k1, rfl, hu⟩
      have HU := Aside.mk hu
      clear hu
      go_wp2_with fail
      refine (new_some _ _).mono ?_
      rintro e w2 ⟨v2, k2, rfl, hu⟩
      have HU2 := Aside.mk hu
      clear hu
      go_wp2_with fail
      refine (awake_calls _).mono ?_
      rintro e w3 ⟨rfl, hu⟩
      have HU3 := Aside.mk hu
      clear hu
      go_wp2
      go_ret
      exact ⟨rfl, below2 HU.out HU2.out HU3.out⟩
  exact main _ h (by omega)
theorem per_succ {n : Int} (h : 0 ≤ n) : per (n + 1) = 2 * per n := by
  unfold per
  rw [show (n + 1).toNat = n.toNat + 1 from by omega, Int.pow_succ]
  omega
theorem bound_twice {n t : Int} (h0 : 0 ≤ n) (h1 : n ≤ 6) (h2 : 0 ≤ t) : boundOf n (2 * t) ≤ 2 * boundOf n t ∧ boundOf (n + 1) (2 * t) = boundOf n t := by
  unfold boundOf
  rw [per_succ h0]
  rcases per_cases h0 (show n ≤ 7 by omega) with h | h | h | h | h | h | h | h <;> rw [h.2] <;> omega
set_option maxRecDepth 100000 in
set_option maxHeartbeats 400000 in
theorem bagDoubles_yes (n t : Int) (w : World) (h : 0 ≤ n ∧ n ≤ 6) (ht : 0 ≤ t ∧ t ≤ 562949953421312) : Calls Try.prog 5 #[.int .i64 n, .int .i64 t] w fun e w' => e = .returned (.bool true) ∧ Below w.heap.size w w' := by
  have H1 : Aside (0 ≤ n ∧ n ≤ 7) := ⟨by omega⟩
  have H2 : Aside (0 ≤ n + 1 ∧ n + 1 ≤ 7) := ⟨by omega⟩
  have T1 : Aside (0 ≤ t ∧ t ≤ 1125899906842624) := ⟨by omega⟩
  have T2 : Aside (0 ≤ 2 * t ∧ 2 * t ≤ 1125899906842624) := ⟨by omega⟩
  have O1 := Aside.mk (Reg.new_ok H1.out)
  have O2 := Aside.mk (Reg.new_ok H2.out)
  have hp := per_le H1.out.1 H1.out.2
  obtain ⟨p0, p1⟩ := hp
  have hs := per_succ h.1
  obtain ⟨b1, b2⟩ := bound_twice h.1 h.2 ht.1
  have HS := Aside.mk hs
  have BN : Aside (boundOf n (2 * t) ≤ 2 * boundOf n t ∧ 0 ≤ boundOf n t ∧ boundOf n t ≤ 1125899906842624) := ⟨b1, Int.ediv_nonneg (by omega) (by omega), by unfold boundOf; rcases per_cases H1.out.1 H1.out.2 with h | h | h | h | h | h | h | h <;> rw [h.2] <;> omega⟩
  clear b1
  have B2 := Aside.mk b2
  clear hs b2
  obtain ⟨h0, h1⟩ := h
  obtain ⟨t0, t1⟩ := ht
  have q1 : wrap64 (per n * 2) = 2 * per n := by unfold wrap64; omega
  go_enter Try.func5, Try.ntmps5
  go_wp2_with fail
  refine (new_yes _ _ H1.out).mono ?_
  rintro e w1 ⟨rfl, hb, hu⟩
  have HB := Aside.mk hb
  have HU := Aside.mk hu
  clear hb hu
  go_wp2_with fail
  refine (new_yes _ _ H2.out).mono ?_
  rintro e w2 ⟨rfl, hb, hu⟩
  have HB1 : Aside (Blk w2 w.heap.size 51 (Reg.new n).cells) := ⟨(hu.block _ HB.out.lt).trans HB.out⟩
  have HB2 := Aside.mk hb
  have HU2 := Aside.mk hu
  clear hb hu
  go_wp2_with fail
  refine (period_reg _ _ _ HB1.out O1.out).mono ?_
  rintro e w' ⟨rfl, rfl⟩
  go_wp2_with fail
  refine (period_reg _ _ _ HB2.out O2.out).mono ?_
  rintro e w' ⟨rfl, rfl⟩
  rw [show per (Reg.new (n + 1)).b = 2 * per n from HS.out, show per (Reg.new n).b = per n from rfl]
  go_wp2_with fail
  refine (period_reg _ _ _ HB1.out O1.out).mono ?_
  rintro e w' ⟨rfl, rfl⟩
  rw [show per (Reg.new n).b = per n from rfl]
  go_wp2_with fail
  refine (bound_yes _ _ _ H1.out T1.out).mono ?_
  rintro e w' ⟨rfl, rfl⟩
  go_wp2_with fail
  refine (bound_yes _ _ _ H1.out T2.out).mono ?_
  rintro e w' ⟨rfl, rfl⟩
  go_wp2_with fail
  refine (bound_yes _ _ _ H2.out T2.out).mono ?_
  rintro e w' ⟨rfl, rfl⟩
  rw [B2.out]
  obtain ⟨g1, g2, g3⟩ := BN.out
  go_wp2_with fail
  refine (awake_calls _).mono ?_
  rintro e w3 ⟨rfl, hu⟩
  have HU3 := Aside.mk hu
  clear hu
  go_wp2
  go_ret
  exact ⟨rfl, below2 HU.out HU2.out HU3.out⟩
theorem bagDoubles_walk (n t : Int) (w : World) (_ : -9223372036854775808 ≤ n ∧ n ≤ 9223372036854775807) (_ : -9223372036854775808 ≤ t ∧ t ≤ 9223372036854775807) : Calls Try.prog 5 #[.int .i64 n, .int .i64 t] w fun e w' => e = .returned (.bool true) ∧ Below w.heap.size w w' := by
  by_cases h : n < 0 ∨ 6 < n ∨ t < 0 ∨ 562949953421312 < t
  · exact bagDoubles_no n t w h
  · exact bagDoubles_yes n t w (by omega) (by omega)
end Go.Proofs.Ytoofekeenbllhaa
