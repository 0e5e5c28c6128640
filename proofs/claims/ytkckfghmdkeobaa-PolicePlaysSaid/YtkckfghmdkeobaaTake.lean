/- What (*police.Account).Take answers and leaves. Conditions: the account lies in a block of its own. -/
import Derived.Test.YtkckfghmdkeobaaPol
namespace Go.Proofs.Ytkckfghmdkeobaa
open Go.RowKit
set_option linter.unusedVariables false
set_option linter.unusedSimpArgs false
def Acc.to (s : Acc) (now : Int) : Acc := { s with now := now, left := s.creditOf now }
def Acc.bad (now n : Int) : Prop := now < 0 ∨ 1125899906842624 < now ∨ n < 0
instance (now n : Int) : Decidable (Acc.bad now n) := inferInstanceAs (Decidable (now < 0 ∨ 1125899906842624 < now ∨ n < 0))
def Acc.err (s : Acc) (now n : Int) : Int := if Acc.bad now n then 1 else if now < s.now then 24 else if s.r.smax < n then 11 else if s.creditOf now < s.costOf n then 26 else 0
def Acc.take (s : Acc) (now n : Int) : Acc := if Acc.bad now n then s else if now < s.now then s else if s.r.smax < n then { s.to now with dropped := s.dropped + 1 } else if s.creditOf now < s.costOf n then { s.to now with dropped := s.dropped + 1 } else { s.to now with left := s.creditOf now - s.costOf n, passed := s.passed + 1 }
theorem Acc.to_ok {s : Acc} (ok : s.ok) {now : Int} (h0 : 0 ≤ now) (h1 : now ≤ 1125899906842624) : (s.to now).ok := ⟨ok.r, ⟨h0, h1⟩, credit_range ok now, ok.cnt⟩
theorem Acc.take_ok {s : Acc} (ok : s.ok) (now n : Int) : (s.take now n).ok := by
  unfold Acc.take
  split
  · exact ok
  rename_i hb
  unfold Acc.bad at hb
  split
  · exact ok
  have o := Acc.to_ok ok (now := now) (by omega) (by omega)
  have c := ok.cnt
  split
  · exact ⟨o.r, o.now0, o.left0, by simp only [Acc.to]; omega⟩
  split
  · exact ⟨o.r, o.now0, o.left0, by simp only [Acc.to]; omega⟩
  · have := ok.cost_le (n := n) (by omega) (by omega)
    have := credit_range ok now
    exact ⟨o.r, o.now0, by simp only [Acc.to]; omega, by simp only [Acc.to]; omega⟩
theorem Acc.take_cnt (s : Acc) (now n : Int) : (s.take now n).passed ≤ s.passed + 1 ∧ (s.take now n).dropped ≤ s.dropped + 1 ∧ (s.take now n).r = s.r := by
  unfold Acc.take
  split
  · exact ⟨by omega, by omega, rfl⟩
  split
  · exact ⟨by omega, by omega, rfl⟩
  split
  · exact ⟨by simp only [Acc.to]; omega, by simp only [Acc.to]; omega, rfl⟩
  split
  · exact ⟨by simp only [Acc.to]; omega, by simp only [Acc.to]; omega, rfl⟩
  · exact ⟨by simp only [Acc.to]; omega, by simp only [Acc.to]; omega, rfl⟩
theorem Blk.below {w w1 : World} {g : Nat} {t : TypeId} {cs : Array Value} (h : Blk w g t cs) (hu : Below w.heap.size w w1) : Blk w1 g t cs := (hu.block _ h.lt).trans h
theorem cost_to (g : Nat) (s : Acc) (now n : Int) (w : World) (h : Blk w g 55 (s.to now).cells) (ok : (s.to now).ok) (n0 : 0 ≤ n) (n1 : n ≤ s.r.smax) : Calls Try.prog 24 #[.pointer (some ⟨g, 0, none⟩), .int .i64 n] w fun e w' => e = .returned (.int .i64 (s.costOf n)) ∧ Below w.heap.size w w' := cost_calls g (s.to now) n w h ok n0 n1
set_option maxRecDepth 100000 in
set_option maxHeartbeats 1000000 in
theorem take_bad (g : Nat) (now n : Int) (w : World) (h : Acc.bad now n) : Calls Try.prog 14 #[.pointer (some ⟨g, 0, none⟩), .int .i64 now, .int .i64 n] w fun e w' => e = .returned (.int .i64 1) ∧ w = w' := by
  have key : now < 0 ∨ (¬ now < 0 ∧ 1125899906842624 < now) ∨ (¬ now < 0 ∧ ¬ 1125899906842624 < now ∧ n < 0) := by unfold Acc.bad at h; omega
  clear h
  rcases key with h | ⟨h1, h⟩ | ⟨h1, h2, h⟩
  all_goals
    go_enter Try.func14, Try.ntmps14
    go_wp2
    go_ret
    exact ⟨rfl, rfl⟩
set_option maxRecDepth 100000 in
set_option maxHeartbeats 1000000 in
theorem take_time (g : Nat) (s : Acc) (now n : Int) (w : World) (h : Blk w g 55 s.cells) (hb : ¬ Acc.bad now n) (ht : now < s.now) : Calls Try.prog 14 #[.pointer (some ⟨g, 0, none⟩), .int .i64 now, .int .i64 n] w fun e w' => e = .returned (.int .i64 24) ∧ w = w' := by
  obtain ⟨h0, h1, h2, h3, h4, h5, h6, h7⟩ := acc_cells h
  unfold Acc.bad at hb
  have a0 : 0 ≤ now := by omega
  have a1 : now ≤ 1125899906842624 := by omega
  have a2 : 0 ≤ n := by omega
  clear h hb h0 h1 h2 h3 h5 h6 h7
  go_enter Try.func14, Try.ntmps14
  go_wp2
  go_ret
  exact ⟨rfl, rfl⟩
set_option maxRecDepth 100000 in
set_option maxHeartbeats 2000000 in
theorem take_goes (g : Nat) (s : Acc) (now n : Int) (w : World) (h : Blk w g 55 s.cells) (ok : s.ok) (hb : ¬ Acc.bad now n) (ht : ¬ now < s.now) (hp : s.passed ≤ 1125899906842624) (hd : s.dropped ≤ 1125899906842624) : Calls Try.prog 14 #[.pointer (some ⟨g, 0, none⟩), .int .i64 now, .int .i64 n] w fun e w' => e = .returned (.int .i64 (s.err now n)) ∧ Blk w' g 55 (s.take now n).cells ∧ Upon (· = g) w w' := by
  obtain ⟨h0, h1, h2, h3, h4, h5, h6, h7⟩ := acc_cells h
  have HB := Aside.mk h
  have OK := Aside.mk ok
  have HBAD := Aside.mk hb
  unfold Acc.bad at hb
  have a0 : 0 ≤ now := by omega
  have a1 : now ≤ 1125899906842624 := by omega
  have a2 : 0 ≤ n := by omega
  have cp := ok.cnt.1
  have cd := ok.cnt.2
  have HT := Aside.mk ht
  clear h hb
  go_enter Try.func14, Try.ntmps14
  go_wp2_with fail
  refine (credit_calls _ s _ _ HB.out OK.out (by omega)).mono ?_
  rintro e w1 ⟨rfl, hu⟩
  have hb1 := HB.out.below hu
  have f4 := hb1.frozen 4
  have f5 := hb1.frozen 5
  have HU1 := Aside.mk (Upon.of_below (S := (· = g)) hu)
  have g0 : w1.cell? ⟨g, 0, none⟩ = some (.int .i64 s.r.smax) := hb1.cell 0
  have g4 : w1.cell? ⟨g, 4, none⟩ = some (.int .i64 s.now) := hb1.cell 4
  have g5 : w1.cell? ⟨g, 5, none⟩ = some (.int .i64 s.left) := hb1.cell 5
  have HB1 := Aside.mk hb1
  clear hb1 hu h0 h1 h2 h3 h4 h5 h6 h7
  by_cases hl : s.r.smax < n
  · have E1 : Aside (s.err now n = 11) := ⟨by unfold Acc.err; rw [if_neg HBAD.out, if_neg (show ¬ now < s.now by have := HT.out; omega), if_pos hl]⟩
    have E2 : Aside (s.take now n = { s.to now with dropped := s.dropped + 1 }) := ⟨by unfold Acc.take; rw [if_neg HBAD.out, if_neg (show ¬ now < s.now by have := HT.out; omega), if_pos hl]⟩
    have g7 : w1.cell? ⟨g, 7, none⟩ = some (.int .i64 s.dropped) := HB1.out.cell 7
    have f7 := HB1.out.frozen 7
    go_wp2_with fail
    go_ret
    refine ⟨by rw [E1.out]; rfl, ?_, ((HU1.out.setg rfl _ _).setg rfl _ _).setg rfl _ _⟩
    rw [E2.out]
    have hb := ((HB1.out.set 5 (.int .i64 (s.creditOf now))).set 4 (.int .i64 now)).set 7 (.int .i64 (s.dropped + 1))
    simpa [Acc.cells, Acc.to] using hb
  · have hc := OK.out.cost_le a2 (by omega)
    obtain ⟨hc0, hc1⟩ := hc
    have hr := credit_range OK.out now
    have hfl := OK.out.r.full_le
    obtain ⟨hr0, hr1⟩ := hr
    obtain ⟨hfl0, hfl1⟩ := hfl
    have HLE : Aside (n ≤ s.r.smax) := ⟨by omega⟩
    have OT := Aside.mk (Acc.to_ok OK.out a0 a1)
    have BT : Aside (Blk ((w1.setCell ⟨g, 5, none⟩ (.int .i64 (s.creditOf now))).setCell ⟨g, 4, none⟩ (.int .i64 now)) g 55 (s.to now).cells) := ⟨by
      have hb := (HB1.out.set 5 (.int .i64 (s.creditOf now))).set 4 (.int .i64 now)
      simpa [Acc.cells, Acc.to] using hb⟩
    have UT : Aside (Upon (· = g) w ((w1.setCell ⟨g, 5, none⟩ (.int .i64 (s.creditOf now))).setCell ⟨g, 4, none⟩ (.int .i64 now))) := ⟨(HU1.out.setg rfl _ _).setg rfl _ _⟩
    go_wp2_with fail
    clear g0 g4 g5 f4 f5
    generalize (w1.setCell ⟨g, 5, none⟩ (.int .i64 (s.creditOf now))).setCell ⟨g, 4, none⟩ (.int .i64 now) = wb at BT UT ⊢
    have k5 : wb.cell? ⟨g, 5, none⟩ = some (.int .i64 (s.creditOf now)) := BT.out.cell 5
    go_region_with (go_at_call 24; refine (cost_to _ s now _ _ ?_ OT.out a2 HLE.out).mono ?_; exact BT.out; rintro e w3 ⟨rfl, hu⟩; have B3 := Aside.mk ((show Blk wb.drew g 55 (s.to now).cells from BT.out).below hu); have U3 := Aside.mk (UT.out.drew.trans (Upon.of_below (S := (· = g)) hu)); have k5' : w3.cell? ⟨g, 5, none⟩ = some (.int .i64 (s.creditOf now)) := B3.out.cell 5; clear hu)
    all_goals
      clear k5
      by_cases hcc : s.creditOf now < s.costOf n
      · have E1 : Aside (s.err now n = 26) := ⟨by unfold Acc.err; rw [if_neg HBAD.out, if_neg (show ¬ now < s.now by have := HT.out; omega), if_neg (show ¬ s.r.smax < n by have := HLE.out; omega), if_pos hcc]⟩
        have E2 : Aside (s.take now n = { s.to now with dropped := s.dropped + 1 }) := ⟨by unfold Acc.take; rw [if_neg HBAD.out, if_neg (show ¬ now < s.now by have := HT.out; omega), if_neg (show ¬ s.r.smax < n by have := HLE.out; omega), if_pos hcc]⟩
        have k7 : w3.cell? ⟨g, 7, none⟩ = some (.int .i64 s.dropped) := B3.out.cell 7
        have f7 := B3.out.frozen 7
        clear k5'
        go_wp2
        go_ret
        refine ⟨by rw [E1.out]; rfl, ?_, U3.out.setg rfl _ _⟩
        rw [E2.out]
        have hb := B3.out.set 7 (.int .i64 (s.dropped + 1))
        simpa [Acc.cells, Acc.to] using hb
      · have E1 : Aside (s.err now n = 0) := ⟨by unfold Acc.err; rw [if_neg HBAD.out, if_neg (show ¬ now < s.now by have := HT.out; omega), if_neg (show ¬ s.r.smax < n by have := HLE.out; omega), if_neg hcc]⟩
        have E2 : Aside (s.take now n = { s.to now with left := s.creditOf now - s.costOf n, passed := s.passed + 1 }) := ⟨by unfold Acc.take; rw [if_neg HBAD.out, if_neg (show ¬ now < s.now by have := HT.out; omega), if_neg (show ¬ s.r.smax < n by have := HLE.out; omega), if_neg hcc]⟩
        go_wp2_with fail
        have hwr : IntKind.i64.wrap (s.creditOf now - s.costOf n) = s.creditOf now - s.costOf n := IntWalk.i64_in _ (by omega)
        have q5 := B3.out.frozen 5
        go_region_with (go_at_call 24; refine (cost_to _ s now _ _ ?_ OT.out a2 HLE.out).mono ?_; exact B3.out; rintro e w4 ⟨rfl, hu⟩; have B4 := Aside.mk ((show Blk w3.drew g 55 (s.to now).cells from B3.out).below hu); have U4 := Aside.mk (U3.out.drew.trans (Upon.of_below (S := (· = g)) hu)); have k5'' : w4.cell? ⟨g, 5, none⟩ = some (.int .i64 (s.creditOf now)) := B4.out.cell 5; have q5' := B4.out.frozen 5; clear hu)
        all_goals
          clear k5' q5
          have k6 : w4.cell? ⟨g, 6, none⟩ = some (.int .i64 s.passed) := B4.out.cell 6
          have f6 := B4.out.frozen 6
          go_wp2
          go_ret
          refine ⟨by rw [E1.out]; rfl, ?_, (U4.out.setg rfl _ _).setg rfl _ _⟩
          rw [E2.out]
          have hb := (B4.out.set 5 (.int .i64 (s.creditOf now - s.costOf n))).set 6 (.int .i64 (s.passed + 1))
          simpa [Acc.cells, Acc.to] using hb
theorem take_calls (g : Nat) (s : Acc) (now n : Int) (w : World) (h : Blk w g 55 s.cells) (ok : s.ok) (hp : s.passed ≤ 1125899906842624) (hd : s.dropped ≤ 1125899906842624) : Calls Try.prog 14 #[.pointer (some ⟨g, 0, none⟩), .int .i64 now, .int .i64 n] w fun e w' => e = .returned (.int .i64 (s.err now n)) ∧ Blk w' g 55 (s.take now n).cells ∧ Upon (· = g) w w' := by
  by_cases hb : Acc.bad now n
  · have e1 : s.err now n = 1 := if_pos hb
    have e2 : s.take now n = s := if_pos hb
    rw [e1, e2]
    exact (take_bad g now n w hb).mono fun e w' ⟨he, hw⟩ => by subst hw; exact ⟨he, h, Upon.refl _ _⟩
  by_cases ht : now < s.now
  · have e1 : s.err now n = 24 := by unfold Acc.err; rw [if_neg hb, if_pos ht]
    have e2 : s.take now n = s := by unfold Acc.take; rw [if_neg hb, if_pos ht]
    rw [e1, e2]
    exact (take_time g s now n w h hb ht).mono fun e w' ⟨he, hw⟩ => by subst hw; exact ⟨he, h, Upon.refl _ _⟩
  exact take_goes g s now n w h ok hb ht hp hd
end Go.Proofs.Ytkckfghmdkeobaa
