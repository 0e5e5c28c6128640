/- A nil regulator's walk. Conditions: none. -/
import Derived.Test.YtoofekeenbllhaaAwake
namespace Go.Proofs.Ytoofekeenbllhaa
open Go.RowKit
set_option maxHeartbeats 400000 in
theorem bagNil_walk (now : Int) (w : World) (_ : -9223372036854775808 ≤ now ∧ now ≤ 9223372036854775807) : Calls Try.prog 8 #[.int .i64 now] w fun e w' => e = .returned (.bool true) ∧ Below w.heap.size w w' := by
  go_enter Try.func8, Try.ntmps8
  go_wp2_with (first | (go_at_call 20; refine (reset_nil _).mono ?_; rintro e w' ⟨rfl, rfl⟩) | (go_at_call 13; refine (take_nil _ _).mono ?_; rintro e w' ⟨rfl, rfl⟩) | (go_at_call 14; refine (when_nil _ _).mono ?_; rintro e w' ⟨rfl, rfl⟩) | (go_at_call 15; refine (period_nil _).mono ?_; rintro e w' ⟨rfl, rfl⟩) | (go_at_call 16; refine (count_nil _).mono ?_; rintro e w' ⟨rfl, rfl⟩) | (go_at_call 11; refine (awake_calls _).mono ?_; rintro e w' ⟨rfl, hb⟩))
  go_ret
  exact ⟨rfl, by assumption⟩
end Go.Proofs.Ytoofekeenbllhaa
