/- RedundLate: a frame is forgotten just when more than skew ticks have passed. Conditions: those of the row. -/
import Derived.Test.YtdhgallfplbhpaaAwk
namespace Go.Proofs.Ytdhgallfplbhpaa
open Go.RowKit
set_option linter.unusedVariables false
def FS.one (k seq : Int) : FS := ⟨[⟨seq, 7, 1⟩], k, 7, 1, 0, 0⟩
theorem timely_zero {s : FS} {now net seq : Int} (h1 : 0 ≤ now ∧ now ≤ 1125899906842624) (h2 : net = 0 ∨ net = 1) (h3 : 0 ≤ seq ∧ seq ≤ 255) (h4 : s.now ≤ now) : s.timely now net seq = 0 := by
  unfold FS.timely
  rw [if_neg (by omega), if_neg (by omega)]
theorem judge_empty {s : FS} (hl : s.l = []) (now net seq : Int) : s.judge now net seq = (0, { s with l := [Fr.mk seq now (net.toNat + 1)], thr := s.thr + 1 }) := by
  have hp : s.put now net seq = { s with l := [Fr.mk seq now (net.toNat + 1)], thr := s.thr + 1 } := by
    unfold FS.put
    rw [hl]
    have hc : cutAt (List.length ([] : List Fr)) = 0 := by unfold cutAt; simp
    rw [hc, List.nil_append, List.drop_zero]
  have h1 : ¬ ∃ f ∈ s.l, f.seq = seq := by rw [hl]; rintro ⟨f, hf, _⟩; cases hf
  have h2 : s.passed seq = false := by unfold FS.passed; rw [hl]; rfl
  have h3 : twiced net seq s.l = none := by rw [hl]; rfl
  unfold FS.judge
  rw [h3]
  simp only
  rw [if_neg h1, if_neg (by rw [h2]; simp), hp]
theorem late_one {k seq : Int} (hs : 0 ≤ seq ∧ seq ≤ 255) : (FS.fresh k).take 7 0 seq = (0, FS.one k seq) := by
  unfold FS.take
  rw [if_pos (timely_zero (by omega) (.inl rfl) hs (by simp [FS.fresh])), judge_empty (by simp [FS.forget, FS.fresh])]
  simp [FS.forget, FS.fresh, FS.one]
theorem late_two {k seq late : Int} (hs : 0 ≤ seq ∧ seq ≤ 255) (hl : 0 ≤ late ∧ late ≤ 1099511627776) : ((FS.one k seq).take (7 + late) 1 seq).1 = if late ≤ k then 21 else 0 := by
  unfold FS.take
  rw [if_pos (timely_zero (by omega) (.inr rfl) hs (by simp [FS.one]; omega))]
  by_cases h : late ≤ k
  · rw [if_pos h]
    have hf : ((FS.one k seq).forget (7 + late)).l = [⟨seq, 7, 1⟩] := by
      have : ¬ k < 7 + late - 7 := by omega
      simp [FS.forget, FS.one, FS.late, this]
    unfold FS.judge
    rw [hf]
    simp [twiced, Fr.hit]
  · rw [if_neg h]
    have hf : ((FS.one k seq).forget (7 + late)).l = [] := by
      have : k < 7 + late - 7 := by omega
      simp [FS.forget, FS.one, FS.late, this]
    rw [judge_empty hf]
set_option maxHeartbeats 4000000 in
theorem redundLate_walk (k seq late : Int) (w : World) (h1 : -9223372036854775808 ≤ k ∧ k ≤ 9223372036854775807) (h2 : -9223372036854775808 ≤ seq ∧ seq ≤ 9223372036854775807) (h3 : -9223372036854775808 ≤ late ∧ late ≤ 9223372036854775807) :
    Calls Try.prog 3 #[.int .i64 k, .int .i64 seq, .int .i64 late] w fun e w' => e = .returned (.bool true) ∧ Below w.heap.size w w' := by
  clear h1 h2 h3
  by_cases hk : 0 ≤ k ∧ k ≤ 1073741824
  case neg =>
    have HK := Aside.mk hk
    clear hk
    go_enter Try.func3, Try.ntmps3
    go_wp2_with (first
      | (go_at_call 9; refine (new_no _ _ HK.out).mono ?_; rintro e w' ⟨rfl, rfl⟩)
      | (go_at_call 10; refine (awake_calls _).mono ?_; rintro e w' ⟨rfl, hb⟩; have HB := Aside.mk hb; clear hb))
    go_ret
    exact ⟨rfl, HB.out⟩
  have HK := Aside.mk hk
  clear hk
  have key : seq < 0 ∨ (¬ seq < 0 ∧ 255 < seq) ∨ (¬ seq < 0 ∧ ¬ 255 < seq ∧ late < 0) ∨ (¬ seq < 0 ∧ ¬ 255 < seq ∧ ¬ late < 0 ∧ 1099511627776 < late) ∨ (¬ seq < 0 ∧ ¬ 255 < seq ∧ ¬ late < 0 ∧ ¬ 1099511627776 < late) := by omega
  rcases key with q1 | ⟨q1, q2⟩ | ⟨q1, q2, q3⟩ | ⟨q1, q2, q3, q4⟩ | ⟨q1, q2, q3, q4⟩
  rotate_right
  · have HS : Aside (0 ≤ seq ∧ seq ≤ 255) := ⟨by omega⟩
    have HL : Aside (0 ≤ late ∧ late ≤ 1099511627776) := ⟨by omega⟩
    have hw : IntKind.i64.wrap (7 + late) = 7 + late := IntWalk.i64_in _ (by omega)
    go_enter Try.func3, Try.ntmps3
    go_wp2_with fail
    refine (new_ok k _ HK.out).mono ?_
    rintro e w1 ⟨rfl, hh, hm, hb⟩
    have H := Aside.mk (In.first HK.out hh hm hb)
    clear hh hm hb
    go_wp2_with fail
    refine (in_take H.out (by omega) 7 0 seq).mono ?_
    rintro e w2 ⟨rfl, hp⟩
    rw [late_one HS.out] at hp ⊢
    have H2 := Aside.mk hp
    clear hp H
    go_wp2_with fail
    refine (in_take H2.out (by omega) (7 + late) 1 seq).mono ?_
    rintro e w3 ⟨rfl, hp⟩
    rw [late_two HS.out HL.out]
    have H3 := Aside.mk hp
    clear hp H2
    by_cases hl : late ≤ k
    · rw [if_pos hl]
      have hd : decide (k < late) = false := decide_eq_false (by omega)
      go_wp2_with (go_at_call 10; refine (awake_calls _).mono ?_; rintro e w' ⟨rfl, hb⟩; have HB := Aside.mk hb; clear hb)
      go_ret
      exact ⟨rfl, below_then H3.out.below H3.out.below.size HB.out⟩
    · rw [if_neg hl]
      have hl2 : k < late := by omega
      have hd : decide (late ≤ k) = false := decide_eq_false (by omega)
      go_wp2_with (go_at_call 10; refine (awake_calls _).mono ?_; rintro e w' ⟨rfl, hb⟩; have HB := Aside.mk hb; clear hb)
      go_ret
      exact ⟨rfl, below_then H3.out.below H3.out.below.size HB.out⟩
  all_goals
    go_enter Try.func3, Try.ntmps3
    go_wp2_with fail
    refine (new_ok k _ HK.out).mono ?_
    rintro e w1 ⟨rfl, hh, hm, hb⟩
    have H := Aside.mk (In.first HK.out hh hm hb)
    clear hh hm hb
    go_wp2_with (go_at_call 10; refine (awake_calls _).mono ?_; rintro e w' ⟨rfl, hb⟩; have HB := Aside.mk hb; clear hb)
    go_ret
    exact ⟨rfl, below_then H.out.below H.out.below.size HB.out⟩
end Go.Proofs.Ytdhgallfplbhpaa
