/- The walk of BagBounds: the code's bound and the reference's are one. Conditions: none. -/
import Derived.Test.YtoofekeenbllhaaAwake
namespace Go.Proofs.Ytoofekeenbllhaa
open Go.RowKit
set_option maxHeartbeats 400000 in
theorem rbound_no (b t : Int) (w : World) (h : ¬ (0 ≤ b ∧ b ≤ 7) ∨ ¬ (0 ≤ t ∧ t ≤ 1125899906842624)) : Calls Try.prog 10 #[.int .i64 b, .int .i64 t] w fun e w' => e = .returned (.tuple #[.int .i64 0, .int .i64 1]) ∧ w = w' := by
  by_cases h0 : b < 0
  · clear h
    go_enter Try.func10, Try.ntmps10
    go_wp2
    go_ret2
    exact ⟨rfl, rfl⟩
  by_cases h1 : 7 < b
  · clear h
    go_enter Try.func10, Try.ntmps10
    go_wp2
    go_ret2
    exact ⟨rfl, rfl⟩
  by_cases h2 : t < 0
  · clear h
    go_enter Try.func10, Try.ntmps10
    go_wp2
    go_ret2
    exact ⟨rfl, rfl⟩
  · have h3 : 1125899906842624 < t := by omega
    clear h
    go_enter Try.func10, Try.ntmps10
    go_wp2
    go_ret2
    exact ⟨rfl, rfl⟩
theorem div_is {x p q : Int} (hp : 0 < p) (h0 : q * p ≤ x) (h1 : x < (q + 1) * p) : x / p = q := by
  have a := Int.le_ediv_of_mul_le hp h0
  have b := Int.ediv_lt_of_lt_mul hp h1
  omega
theorem up_div {t p : Int} (hp : 0 < p) (h : 0 < t % p) : t / p + 1 = (t + p - 1) / p := by
  have e := Int.mul_ediv_add_emod t p
  have hlt := Int.emod_lt_of_pos t hp
  rw [Int.mul_comm] at e
  symm
  apply div_is hp <;> (generalize t / p = q at *; generalize t % p = r at *; (try simp only [Int.add_mul]); omega)
theorem even_div {t p : Int} (hp : 0 < p) (h : ¬ 0 < t % p) : t / p = (t + p - 1) / p := by
  have e := Int.mul_ediv_add_emod t p
  have h0 := Int.emod_nonneg t (show p ≠ 0 by omega)
  rw [Int.mul_comm] at e
  symm
  apply div_is hp <;> (generalize t / p = q at *; generalize t % p = r at *; (try simp only [Int.add_mul]); omega)
set_option maxHeartbeats 400000 in
theorem rbound_yes (b t : Int) (w : World) (h : 0 ≤ b ∧ b ≤ 7) (ht : 0 ≤ t ∧ t ≤ 1125899906842624) : Calls Try.prog 10 #[.int .i64 b, .int .i64 t] w fun e w' => e = .returned (.tuple #[.int .i64 (boundOf b t), .int .i64 0]) ∧ w = w' := by
  have H := Aside.mk h
  obtain ⟨hp0, hp1⟩ := per_le h.1 h.2
  obtain ⟨h0, h1⟩ := h
  obtain ⟨t0, t1⟩ := ht
  have hz : ((per b) == 0) = false := beq_eq_false_iff_ne.2 (by omega)
  have hq0 : 0 ≤ t / per b := Int.ediv_nonneg (by omega) (by omega)
  have hq1 : t / per b ≤ t := Int.ediv_le_self _ (by omega)
  by_cases hm : 0 < t % per b
  · have HF : Aside (t / per b + 1 = boundOf b t) := ⟨up_div (by omega) hm⟩
    go_enter Try.func10, Try.ntmps10
    go_wp2_with (go_at_call 24; refine (rperiod_calls _ _ H.out).mono ?_; rintro e w' ⟨rfl, rfl⟩)
    go_ret2
    exact ⟨by rw [← HF.out]; rfl, rfl⟩
  · have HF : Aside (t / per b = boundOf b t) := ⟨even_div (by omega) hm⟩
    go_enter Try.func10, Try.ntmps10
    go_wp2_with (go_at_call 24; refine (rperiod_calls _ _ H.out).mono ?_; rintro e w' ⟨rfl, rfl⟩)
    go_ret2
    exact ⟨by rw [← HF.out]; rfl, rfl⟩
set_option maxHeartbeats 400000 in
theorem bagBounds_walk (b t : Int) (w : World) (_ : -9223372036854775808 ≤ b ∧ b ≤ 9223372036854775807) (_ : -9223372036854775808 ≤ t ∧ t ≤ 9223372036854775807) : Calls Try.prog 3 #[.int .i64 b, .int .i64 t] w fun e w' => e = .returned (.bool true) ∧ Below w.heap.size w w' := by
  by_cases h : (0 ≤ b ∧ b ≤ 7) ∧ (0 ≤ t ∧ t ≤ 1125899906842624)
  · have H1 := Aside.mk h.1
    have H2 := Aside.mk h.2
    clear h
    go_enter Try.func3, Try.ntmps3
    go_wp2_with (first | (go_at_call 9; refine (bound_yes _ _ _ H1.out H2.out).mono ?_; rintro e w' ⟨rfl, rfl⟩) | (go_at_call 10; refine (rbound_yes _ _ _ H1.out H2.out).mono ?_; rintro e w' ⟨rfl, rfl⟩) | (go_at_call 11; refine (awake_calls _).mono ?_; rintro e w' ⟨rfl, hb⟩))
    go_ret
    exact ⟨rfl, by assumption⟩
  · have H : Aside (¬ (0 ≤ b ∧ b ≤ 7) ∨ ¬ (0 ≤ t ∧ t ≤ 1125899906842624)) := ⟨by omega⟩
    clear h
    go_enter Try.func3, Try.ntmps3
    go_wp2_with (first | (go_at_call 9; refine (bound_no _ _ _ H.out).mono ?_; rintro e w' ⟨rfl, rfl⟩) | (go_at_call 10; refine (rbound_no _ _ _ H.out).mono ?_; rintro e w' ⟨rfl, rfl⟩) | (go_at_call 11; refine (awake_calls _).mono ?_; rintro e w' ⟨rfl, hb⟩))
    go_ret
    exact ⟨rfl, by assumption⟩
end Go.Proofs.Ytoofekeenbllhaa
