/- The step from one number to another one. Conditions: none. -/
import Derived.Test.YtdgjcjhicbgfaaaGreatMa
import Derived.Test.YtdgjcjhicbgfaaaGreatMf
set_option linter.unusedVariables false
set_option linter.unusedSimpArgs false
namespace Go.Proofs.YtdgjcjhicbgfaaaGreat
open Go.RowKit
set_option linter.unusedVariables false

def numB (n : Int) : Bool := decide (0 ≤ n ∧ n ≤ 255)
theorem numB_true {b : Int} (h : 0 ≤ b ∧ b ≤ 255) : numB b = true := decide_eq_true h
theorem numB_false {b : Int} (h : ¬ (0 ≤ b ∧ b ≤ 255)) : numB b = false := decide_eq_false h
def step (a b : Int) : Int := if ¬ (0 ≤ a ∧ a ≤ 255) ∨ ¬ (0 ≤ b ∧ b ≤ 255) ∨ b = 0 then 0 else if (b - a + 255) % 255 = 0 then 255 else (b - a + 255) % 255
theorem stepI_eq (a b : Int) : stepI a b = step a b := by
  unfold stepI step
  split
  · split
    · split
      · split
        · rw [if_neg (c := ¬ (0 ≤ a ∧ a ≤ 255) ∨ ¬ (0 ≤ b ∧ b ≤ 255) ∨ b = 0) (by omega)]
        · rw [if_pos (by omega)]
      · rw [if_pos (by omega)]
    · rw [if_pos (by omega)]
  · rw [if_pos (by omega)]
set_option maxHeartbeats 400000 in
theorem number_calls (b : Int) (w : World) : Calls Tryz.prog 153 #[.int .i64 b] w fun e w' => e = .returned (.bool (numB b)) ∧ w = w' := by
  by_cases h0 : 0 ≤ b
  · by_cases h1 : b ≤ 255
    · go_enter Tryz.func153, Tryz.ntmps153
      go_wp2
      go_ret
      exact ⟨by rw [numB_true ⟨h0, h1⟩]; rfl, rfl⟩
    · go_enter Tryz.func153, Tryz.ntmps153
      go_wp2
      go_ret
      exact ⟨by rw [numB_false (by omega)]; rfl, rfl⟩
  · go_enter Tryz.func153, Tryz.ntmps153
    go_wp2
    go_ret
    exact ⟨by rw [numB_false (by omega)]; rfl, rfl⟩
set_option maxHeartbeats 400000 in
theorem step_calls (a b : Int) (w : World) : Calls Tryz.prog 158 #[.int .i64 a, .int .i64 b] w fun e w' => e = .returned (.int .i64 (step a b)) ∧ w = w' := by
  by_cases h : ¬ (0 ≤ a ∧ a ≤ 255)
  · have HF : Aside (step a b = 0) := ⟨by unfold step; rw [if_pos (.inl h)]⟩
    have HA := Aside.mk (numB_false h)
    clear h
    go_enter Tryz.func158, Tryz.ntmps158
    go_wp2_with fail
    refine (number_calls _ _).mono ?_
    rintro e w' ⟨rfl, rfl⟩
    rw [HA.out]
    go_wp2
    go_ret
    exact ⟨by rw [HF.out]; rfl, rfl⟩
  by_cases h2 : ¬ (0 ≤ b ∧ b ≤ 255)
  · have HF : Aside (step a b = 0) := ⟨by unfold step; rw [if_pos (.inr (.inl h2))]⟩
    have HA : Aside (numB a = true) := ⟨numB_true (by omega)⟩
    have HB := Aside.mk (numB_false h2)
    clear h h2
    go_enter Tryz.func158, Tryz.ntmps158
    go_wp2_with fail
    refine (number_calls _ _).mono ?_
    rintro e w' ⟨rfl, rfl⟩
    rw [HA.out]
    go_wp2_with fail
    refine (number_calls _ _).mono ?_
    rintro e w' ⟨rfl, rfl⟩
    rw [HB.out]
    go_wp2
    go_ret
    exact ⟨by rw [HF.out]; rfl, rfl⟩
  have HA : Aside (numB a = true) := ⟨numB_true (by omega)⟩
  have HB : Aside (numB b = true) := ⟨numB_true (by omega)⟩
  by_cases h3 : b = 0
  · have HF : Aside (step a b = 0) := ⟨by unfold step; rw [if_pos (.inr (.inr h3))]⟩
    subst h3
    clear h h2
    go_enter Tryz.func158, Tryz.ntmps158
    go_wp2_with fail
    refine (number_calls _ _).mono ?_
    rintro e w' ⟨rfl, rfl⟩
    rw [HA.out]
    go_wp2_with fail
    refine (number_calls _ _).mono ?_
    rintro e w' ⟨rfl, rfl⟩
    rw [HB.out]
    go_wp2
    go_ret
    exact ⟨by rw [HF.out]; rfl, rfl⟩
  · have h4 : 1 ≤ b ∧ b ≤ 255 := by omega
    have h5 : 0 ≤ a ∧ a ≤ 255 := by omega
    obtain ⟨b0, b1⟩ := h4
    obtain ⟨a0, a1⟩ := h5
    have HN : ¬ (¬ (0 ≤ a ∧ a ≤ 255) ∨ ¬ (0 ≤ b ∧ b ≤ 255) ∨ b = 0) := by omega
    by_cases h6 : (b - a + 255) % 255 = 0
    · have HF : Aside (step a b = 255) := ⟨by unfold step; rw [if_neg HN, if_pos h6]⟩
      clear h h2 HN h3
      go_enter Tryz.func158, Tryz.ntmps158
      go_wp2_with fail
      refine (number_calls _ _).mono ?_
      rintro e w' ⟨rfl, rfl⟩
      rw [HA.out]
      go_wp2_with fail
      refine (number_calls _ _).mono ?_
      rintro e w' ⟨rfl, rfl⟩
      rw [HB.out]
      go_wp2
      go_ret
      exact ⟨by rw [HF.out]; rfl, rfl⟩
    · have HF : Aside (step a b = (b - a + 255) % 255) := ⟨by unfold step; rw [if_neg HN, if_neg h6]⟩
      clear h h2 HN h3
      go_enter Tryz.func158, Tryz.ntmps158
      go_wp2_with fail
      refine (number_calls _ _).mono ?_
      rintro e w' ⟨rfl, rfl⟩
      rw [HA.out]
      go_wp2_with fail
      refine (number_calls _ _).mono ?_
      rintro e w' ⟨rfl, rfl⟩
      rw [HB.out]
      go_wp2
      go_ret
      exact ⟨by rw [HF.out]; rfl, rfl⟩

end Go.Proofs.YtdgjcjhicbgfaaaGreat
