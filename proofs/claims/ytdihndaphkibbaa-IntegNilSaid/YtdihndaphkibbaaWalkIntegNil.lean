/- A nil judge's walk. Conditions: none. -/
import Derived.Test.YtdihndaphkibbaaInteg
namespace Go.Proofs.Ytdihndaphkibbaa
open Go.RowKit
set_option maxHeartbeats 400000 in
theorem integNil_walk (now : Int) (w : World) (_ : -9223372036854775808 ≤ now ∧ now ≤ 9223372036854775807) : Calls Try.prog 7 #[.int .i64 now] w fun e w' => e = .returned (.bool true) ∧ Below w.heap.size w w' := by
  go_enter Try.func7, Try.ntmps7
  go_wp2_with (first | (go_at_call 19; refine (reset_nil _).mono ?_; rintro e w' ⟨rfl, rfl⟩) | (go_at_call 13; refine (take_nil _ _).mono ?_; rintro e w' ⟨rfl, rfl⟩) | (go_at_call 14; refine (last_nil _).mono ?_; rintro e w' ⟨rfl, rfl⟩) | (go_at_call 16; refine (lost_nil _).mono ?_; rintro e w' ⟨rfl, rfl⟩) | (go_at_call 17; refine (wrong_nil _).mono ?_; rintro e w' ⟨rfl, rfl⟩) | (go_at_call 11; refine (awake_calls _).mono ?_; rintro e w' ⟨rfl, hb⟩))
  go_ret
  exact ⟨rfl, by assumption⟩
end Go.Proofs.Ytdihndaphkibbaa
