/- The step from one number to another one; the next number. Conditions: none. -/
import Derived.Test.YtdhgallfplbhpaaBase
namespace Go.Proofs.Ytdhgallfplbhpaa
open Go.RowKit
set_option linter.unusedVariables false

def numB (n : Int) : Bool := decide (0 ≤ n ∧ n ≤ 255)
theorem numB_true {b : Int} (h : 0 ≤ b ∧ b ≤ 255) : numB b = true := decide_eq_true h
theorem numB_false {b : Int} (h : ¬ (0 ≤ b ∧ b ≤ 255)) : numB b = false := decide_eq_false h
def step (a b : Int) : Int := if ¬ (0 ≤ a ∧ a ≤ 255) ∨ ¬ (0 ≤ b ∧ b ≤ 255) ∨ b = 0 then 0 else if (b - a + 255) % 255 = 0 then 255 else (b - a + 255) % 255
def next (s : Int) : Int := if s < 0 ∨ 255 ≤ s then 1 else s + 1
theorem next_range (s : Int) : 1 ≤ next s ∧ next s ≤ 255 := by unfold next; split <;> omega
theorem step_range (a b : Int) : 0 ≤ step a b ∧ step a b ≤ 255 := by
  unfold step
  split
  · omega
  · split
    · omega
    · omega

set_option maxHeartbeats 400000 in
theorem number_calls (b : Int) (w : World) : Calls Try.prog 30 #[.int .i64 b] w fun e w' => e = .returned (.bool (numB b)) ∧ w = w' := by
  by_cases h0 : 0 ≤ b
  · by_cases h1 : b ≤ 255
    · go_enter Try.func30, Try.ntmps30
      go_wp2
      go_ret
      exact ⟨by rw [numB_true ⟨h0, h1⟩]; rfl, rfl⟩
    · go_enter Try.func30, Try.ntmps30
      go_wp2
      go_ret
      exact ⟨by rw [numB_false (by omega)]; rfl, rfl⟩
  · go_enter Try.func30, Try.ntmps30
    go_wp2
    go_ret
    exact ⟨by rw [numB_false (by omega)]; rfl, rfl⟩
set_option maxHeartbeats 400000 in
theorem rnext_calls (s : Int) (w : World) : Calls Try.prog 13 #[.int .i64 s] w fun e w' => e = .returned (.int .i64 (next s)) ∧ w = w' := by
  by_cases h0 : s < 0
  · have HF : Aside (next s = 1) := ⟨by unfold next; rw [if_pos (.inl h0)]⟩
    go_enter Try.func13, Try.ntmps13
    go_wp2
    go_ret
    exact ⟨by rw [HF.out]; rfl, rfl⟩
  · by_cases h1 : 255 ≤ s
    · have HF : Aside (next s = 1) := ⟨by unfold next; rw [if_pos (.inr h1)]⟩
      go_enter Try.func13, Try.ntmps13
      go_wp2
      go_ret
      exact ⟨by rw [HF.out]; rfl, rfl⟩
    · have HF : Aside (next s = s + 1) := ⟨by unfold next; rw [if_neg (by omega)]⟩
      go_enter Try.func13, Try.ntmps13
      go_wp2
      go_ret
      exact ⟨by rw [HF.out]; rfl, rfl⟩
set_option maxHeartbeats 400000 in
theorem step_calls (a b : Int) (w : World) : Calls Try.prog 29 #[.int .i64 a, .int .i64 b] w fun e w' => e = .returned (.int .i64 (step a b)) ∧ w = w' := by
  by_cases h : ¬ (0 ≤ a ∧ a ≤ 255)
  · have HF : Aside (step a b = 0) := ⟨by unfold step; rw [if_pos (.inl h)]⟩
    have HA := Aside.mk (numB_false h)
    clear h
    go_enter Try.func29, Try.ntmps29
    go_wp2_with fail
    refine (number_calls _ _).mono ?_
    rintro e w' ⟨rfl, rfl⟩
    rw [HA.out]
    go_wp2
    go_ret
    exact ⟨by rw [HF.out]; rfl, rfl⟩
  by_cases h2 : ¬ (0 ≤ b ∧ b ≤ 255)
  · have HF : Aside (step a b = 0) := ⟨by unfold step; rw [if_pos (.inr (.inl h2))]⟩
    have HA : Aside (numB a = true) := ⟨numB_true (by omega)⟩
    have HB := Aside.mk (numB_false h2)
    clear h h2
    go_enter Try.func29, Try.ntmps29
    go_wp2_with fail
    refine (number_calls _ _).mono ?_
    rintro e w' ⟨rfl, rfl⟩
    rw [HA.out]
    go_wp2_with fail
    refine (number_calls _ _).mono ?_
    rintro e w' ⟨rfl, rfl⟩
    rw [HB.out]
    go_wp2
    go_ret
    exact ⟨by rw [HF.out]; rfl, rfl⟩
  have HA : Aside (numB a = true) := ⟨numB_true (by omega)⟩
  have HB : Aside (numB b = true) := ⟨numB_true (by omega)⟩
  by_cases h3 : b = 0
  · have HF : Aside (step a b = 0) := ⟨by unfold step; rw [if_pos (.inr (.inr h3))]⟩
    subst h3
    clear h h2
    go_enter Try.func29, Try.ntmps29
    go_wp2_with fail
    refine (number_calls _ _).mono ?_
    rintro e w' ⟨rfl, rfl⟩
    rw [HA.out]
    go_wp2_with fail
    refine (number_calls _ _).mono ?_
    rintro e w' ⟨rfl, rfl⟩
    rw [HB.out]
    go_wp2
    go_ret
    exact ⟨by rw [HF.out]; rfl, rfl⟩
  · have h4 : 1 ≤ b ∧ b ≤ 255 := by omega
    have h5 : 0 ≤ a ∧ a ≤ 255 := by omega
    obtain ⟨b0, b1⟩ := h4
    obtain ⟨a0, a1⟩ := h5
    have HN : ¬ (¬ (0 ≤ a ∧ a ≤ 255) ∨ ¬ (0 ≤ b ∧ b ≤ 255) ∨ b = 0) := by omega
    by_cases h6 : (b - a + 255) % 255 = 0
    · have HF : Aside (step a b = 255) := ⟨by unfold step; rw [if_neg HN, if_pos h6]⟩
      clear h h2 HN h3
      go_enter Try.func29, Try.ntmps29
      go_wp2_with fail
      refine (number_calls _ _).mono ?_
      rintro e w' ⟨rfl, rfl⟩
      rw [HA.out]
      go_wp2_with fail
      refine (number_calls _ _).mono ?_
      rintro e w' ⟨rfl, rfl⟩
      rw [HB.out]
      go_wp2
      go_ret
      exact ⟨by rw [HF.out]; rfl, rfl⟩
    · have HF : Aside (step a b = (b - a + 255) % 255) := ⟨by unfold step; rw [if_neg HN, if_neg h6]⟩
      clear h h2 HN h3
      go_enter Try.func29, Try.ntmps29
      go_wp2_with fail
      refine (number_calls _ _).mono ?_
      rintro e w' ⟨rfl, rfl⟩
      rw [HA.out]
      go_wp2_with fail
      refine (number_calls _ _).mono ?_
      rintro e w' ⟨rfl, rfl⟩
      rw [HB.out]
      go_wp2
      go_ret
      exact ⟨by rw [HF.out]; rfl, rfl⟩

theorem step_lin {a b : Int} (h : 0 ≤ a ∧ a ≤ 255) (hb : 1 ≤ b ∧ b ≤ 255) : step a b = if a < b then b - a else b - a + 255 := by
  unfold step
  rw [if_neg (by omega)]
  split <;> split <;> omega
theorem step_next {a : Int} (h : 0 ≤ a ∧ a ≤ 255) : step a (next a) = 1 := by
  rw [step_lin h (next_range a)]
  unfold next
  split <;> split <;> omega
theorem step_succ {a c : Int} (h : 0 ≤ a ∧ a ≤ 255) (hc : 1 ≤ c ∧ c ≤ 255) (hs : step a c < 255) : step a (next c) = step a c + 1 := by
  rw [step_lin h hc] at hs ⊢
  rw [step_lin h (next_range c)]
  unfold next
  split at hs <;> split <;> split <;> (try split) <;> omega
theorem step_inj {a b c : Int} (h : 0 ≤ a ∧ a ≤ 255) (hb : 1 ≤ b ∧ b ≤ 255) (hc : 1 ≤ c ∧ c ≤ 255) (hs : step a b = step a c) : b = c := by
  rw [step_lin h hb, step_lin h hc] at hs
  split at hs <;> split at hs <;> omega
theorem step_zero {a b : Int} (h : ¬ (0 ≤ a ∧ a ≤ 255) ∨ ¬ (1 ≤ b ∧ b ≤ 255)) : step a b = 0 := by
  unfold step
  rw [if_pos (by omega)]
set_option maxHeartbeats 1000000 in
theorem rstep_calls (a b : Int) (w : World) : Calls Try.prog 27 #[.int .i64 a, .int .i64 b] w fun e w' => e = .returned (.int .i64 (step a b)) ∧ w = w' := by
  by_cases h1 : a < 0
  · have HF := Aside.mk (step_zero (a := a) (b := b) (.inl (by omega)))
    go_enter Try.func27, Try.ntmps27
    go_wp2
    go_ret
    exact ⟨by rw [HF.out]; rfl, rfl⟩
  by_cases h2 : 255 < a
  · have HF := Aside.mk (step_zero (a := a) (b := b) (.inl (by omega)))
    go_enter Try.func27, Try.ntmps27
    go_wp2
    go_ret
    exact ⟨by rw [HF.out]; rfl, rfl⟩
  by_cases h3 : b < 1
  · have HF := Aside.mk (step_zero (a := a) (b := b) (.inr (by omega)))
    go_enter Try.func27, Try.ntmps27
    go_wp2
    go_ret
    exact ⟨by rw [HF.out]; rfl, rfl⟩
  by_cases h4 : 255 < b
  · have HF := Aside.mk (step_zero (a := a) (b := b) (.inr (by omega)))
    go_enter Try.func27, Try.ntmps27
    go_wp2
    go_ret
    exact ⟨by rw [HF.out]; rfl, rfl⟩
  have ha : 0 ≤ a ∧ a ≤ 255 := by omega
  have hb : 1 ≤ b ∧ b ≤ 255 := by omega
  have HA := Aside.mk ha
  have HB := Aside.mk hb
  have HN := Aside.mk (And.intro (step_next ha) (next_range a))
  have HR := Aside.mk (step_range a b)
  have HP : Aside (1 ≤ step a b) := ⟨by unfold step; rw [if_neg (by omega)]; split <;> omega⟩
  clear ha hb
  go_enter Try.func27, Try.ntmps27
  go_wp2_with (go_at_call 13; refine (rnext_calls _ _).mono ?_; rintro e w' ⟨rfl, rfl⟩)
  go_loop [0, 5] (fun c n => ∃ x : Int, c = .int .i64 x ∧ n = .int .i64 (step a x) ∧ Aside (1 ≤ x ∧ x ≤ 255 ∧ step a x ≤ step a b)) (fun _ n => (255 - intOf n).toNat)
  case atStart => exact ⟨next a, rfl, by rw [HN.out.1], HN.out.2.1, HN.out.2.2, by rw [HN.out.1]; exact HP.out⟩
  case round =>
    obtain ⟨x, rfl, rfl, HX⟩ := hrel
    have hr := step_range a x
    obtain ⟨r0, r1⟩ := hr
    by_cases hx : x = b
    · subst hx
      go_wp2
      go_ret
      exact ⟨rfl, rfl⟩
    · have hlt : step a x < step a b := by
        have := HX.out.2.2
        have : step a x ≠ step a b := fun e => hx (step_inj HA.out ⟨HX.out.1, HX.out.2.1⟩ HB.out e)
        omega
      have hr2 := HR.out.2
      have HS := Aside.mk (step_succ HA.out ⟨HX.out.1, HX.out.2.1⟩ (by omega))
      have HXN := Aside.mk (next_range x)
      have HL := Aside.mk hlt
      clear hlt
      go_wp2_with (go_at_call 13; refine (rnext_calls _ _).mono ?_; rintro e w' ⟨rfl, rfl⟩)
      go_round
      case rel => exact ⟨next x, rfl, by rw [HS.out], HXN.out.1, HXN.out.2, by rw [HS.out]; have := HL.out; omega⟩
      case measure => have := HL.out; simp [intOf]; omega

end Go.Proofs.Ytdhgallfplbhpaa
