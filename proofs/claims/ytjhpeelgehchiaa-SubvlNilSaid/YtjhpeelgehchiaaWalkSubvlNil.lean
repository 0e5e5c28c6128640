/- SubvlNil: nil queues have nothing. Conditions: those of the row. -/
import Derived.Test.YtjhpeelgehchiaaAwake
namespace Go.Proofs.Ytjhpeelgehchiaa
open Go.RowKit
set_option linter.unusedVariables false
set_option maxHeartbeats 2000000 in
theorem subvlNil_walk (n : Int) (s : ByteArray) (w : World) (hn : -9223372036854775808 ≤ n ∧ n ≤ 9223372036854775807) (hs : s.size ≤ maxLen) :
    Calls Try.prog 8 #[.int .i64 n, .string s] w fun e w' => e = .returned (.bool true) ∧ Below w.heap.size w w' := by
  clear hn hs
  by_cases hg : (100 : Int) < (s.size : Int)
  · go_enter Try.func8, Try.ntmps8
    go_wp2_with fail
    refine (awake_calls _).mono ?_
    rintro e w' ⟨rfl, hb⟩
    have HB := Aside.mk hb
    clear hb
    go_wp2
    go_ret
    exact ⟨rfl, HB.out⟩
  · go_enter Try.func8, Try.ntmps8
    go_wp2_with (first
      | (go_at_call 19; refine (clear_nil _).mono ?_; rintro e w' ⟨rfl, rfl⟩)
      | (go_at_call 12; refine (pop_nil _).mono ?_; rintro e w' ⟨rfl, rfl⟩)
      | (go_at_call 11; refine (push_nil _ _ _ _ _).mono ?_; rintro e w' ⟨rfl, rfl⟩)
      | (go_at_call 14; refine (len_nil _ _).mono ?_; rintro e w' ⟨rfl, rfl⟩)
      | (go_at_call 15; refine (all_nil _).mono ?_; rintro e w' ⟨rfl, rfl⟩)
      | (go_at_call 10; refine (awake_calls _).mono ?_; rintro e w' ⟨rfl, hb⟩; have HB := Aside.mk hb; clear hb))
    go_ret
    exact ⟨rfl, below_then ((Below.refl _ _).alloc (Nat.le_refl _) _) (by simp) HB.out⟩
end Go.Proofs.Ytjhpeelgehchiaa
