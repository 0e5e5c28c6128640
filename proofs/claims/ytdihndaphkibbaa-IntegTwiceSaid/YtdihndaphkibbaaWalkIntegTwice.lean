/- The walk of IntegTwice. Conditions: none. -/
import Derived.Test.YtdihndaphkibbaaRef
namespace Go.Proofs.Ytdihndaphkibbaa
open Go.RowKit
set_option linter.unusedVariables false
theorem take_no {s : Jdg} {q : Int} (hq : 0 ≤ q ∧ q ≤ 255) (hm : s.may q = false) : s.take q = { s with other := q, odd := true, wrong := s.wrong + 1 } := by
  unfold Jdg.take
  rw [if_neg (by omega), hm]
  rfl
theorem twice_facts {s : Jdg} {q : Int} (hq : 1 ≤ q ∧ q ≤ 255) (h0 : s.err q = 0) : (s.take q).err q = 25 ∧ ((s.take q).take q).wrong = (s.take q).wrong + 1 ∧ ((s.take q).take q).lastOf = q ∧ ((s.take q).take q).err (next q) = 0 := by
  have n : ¬ ¬ (0 ≤ q ∧ q ≤ 255) := by omega
  have e : s.err q = if s.may q then 0 else 25 := if_neg n
  have hm : s.may q = true := by
    rw [e] at h0
    cases hx : s.may q with
    | true => rfl
    | false => rw [hx] at h0; simp at h0
  have e2 : s.take q = { s with seen := true, last := q, odd := false, lost := if s.gap q then s.lost + 1 else s.lost } := by unfold Jdg.take; rw [if_neg n, hm]; rfl
  have hn := next_range q
  have hne : (q == next q) = false := by rw [beq_eq_false_iff_ne]; unfold next; split <;> omega
  have hst : step q q = 255 := by rw [step_lin (by omega) hq]; rw [if_neg (by omega)]; omega
  have hm2 : (s.take q).may q = false := by
    rw [e2]
    unfold Jdg.may Jdg.first Jdg.near Jdg.after
    simp only [hne, hst]
    simp
    omega
  have f1 : (s.take q).err q = 25 := by unfold Jdg.err; rw [if_neg n, hm2]; rfl
  have f2 := take_no (by omega) hm2
  refine ⟨f1, by rw [f2], by rw [f2, e2]; rfl, ?_⟩
  have hm3 : ((s.take q).take q).may (next q) = true := by
    rw [f2, e2]
    unfold Jdg.may Jdg.first Jdg.near Jdg.after
    simp
  unfold Jdg.err
  rw [if_neg (by omega), hm3]
  rfl
set_option maxRecDepth 100000 in
set_option maxHeartbeats 1000000 in
theorem integTwice_yes (a : Option Addr) (len cap : Nat) (L : Nat → Int) (q : Int) (w : World) (hs : Sl w a len 1 isInt L) (hq : 1 ≤ q ∧ q ≤ 255) :
    Calls Try.prog 5 #[.slice a len cap, .int .i64 q] w fun e w' => e = .returned (.bool true) ∧ Below w.heap.size w w' := by
  have HS := Aside.mk hs.ints
  have hm := hs.1
  unfold maxLen at hm
  have HQ := Aside.mk hq
  obtain ⟨q0, q1⟩ := hq
  clear hs
  go_enter Try.func5, Try.ntmps5
  go_wp2_with fail
  refine (new_calls _).mono ?_
  rintro e w1 ⟨rfl, hb, hu⟩
  have H0 := Aside.mk (At.new hb hu)
  clear hb hu
  go_wp2_with fail
  go_loopw [6] (fun i wr => ∃ (k : Nat) (s : Jdg), k ≤ len ∧ k ≤ 100 ∧ i = .int .i64 k ∧ Aside (At w w.heap.size wr s k)) (fun i _ => len - (intOf i).toNat)
  case atStart => exact ⟨0, _, by omega, by omega, rfl, H0⟩
  case round =>
    clear H0
    obtain ⟨k, s, hk, hk100, rfl, HR⟩ := hrel
    by_cases hlt : k < len
    · by_cases hlt2 : k < 100
      · obtain ⟨b, off, ha, hcell, hL0, hL1⟩ := HS.out k hlt
        subst ha
        have hcell' := below_cell HR.out.below hcell
        clear hcell
        go_wp2_with fail
        refine (take_at _ _ HR.out (Nat.le_refl _) (by omega)).mono ?_
        rintro e w2 ⟨rfl, h⟩
        have H2 := Aside.mk h
        clear h hcell'
        go_wp2
        go_roundw
        case rel => exact ⟨k + 1, _, by omega, by omega, by go_num, H2⟩
        case measure => simp [intOf]; omega
      · have HW0 := Aside.mk HR.out.wrong
        go_wp2_with fail
        refine (take_at _ _ HR.out (Nat.le_refl _) (by omega)).mono ?_
        rintro e w2 ⟨rfl, h⟩
        have H2 := Aside.mk h
        clear h
        cases he : (s.err q == 0) with
        | false =>
          have e0 : (s.err q != 0) = true := by rw [bne, he]; rfl
          clear he
          go_wp2_with fail
          refine (awake_calls _).mono ?_
          rintro e w6 ⟨rfl, hu⟩
          have U6 := Aside.mk hu
          clear hu
          go_wp2
          go_ret
          exact ⟨rfl, below_then H2.out.below H2.out.below.size U6.out⟩
        | true =>
          have e0 : s.err q = 0 := by simpa using he
          have TW := Aside.mk (twice_facts HQ.out e0)
          rw [e0]
          clear he e0
          have v0 := H2.out.ok.wrong0
          have v1 := H2.out.wrong
          go_wp2_with fail
          refine (wrong_calls _ (s.take q).wrong _ (H2.out.blk.cell 5)).mono ?_
          rintro e w' ⟨rfl, rfl⟩
          go_wp2_with fail
          refine (take_at _ _ H2.out (Nat.le_refl _) (by omega)).mono ?_
          rintro e w3 ⟨rfl, h⟩
          rw [TW.out.1]
          have H3 := Aside.mk h
          clear h
          go_wp2_with fail
          refine (wrong_calls _ _ _ (H3.out.blk.cell 5)).mono ?_
          rintro e w' ⟨rfl, rfl⟩
          rw [TW.out.2.1]
          go_wp2_with fail
          refine (last_calls _ _ _ H3.out.blk).mono ?_
          rintro e w' ⟨rfl, rfl⟩
          rw [TW.out.2.2.1]
          go_wp2_with fail
          refine (rnext_calls _ _).mono ?_
          rintro e w' ⟨rfl, rfl⟩
          go_wp2_with fail
          refine (take_at _ _ H3.out (Nat.le_refl _) (by omega)).mono ?_
          rintro e w4 ⟨rfl, h⟩
          rw [TW.out.2.2.2]
          have H4 := Aside.mk h
          clear h
          go_wp2_with fail
          refine (awake_calls _).mono ?_
          rintro e w6 ⟨rfl, hu⟩
          have U6 := Aside.mk hu
          clear hu
          go_wp2
          go_ret
          exact ⟨rfl, below_then H4.out.below H4.out.below.size U6.out⟩
    · have HW0 := Aside.mk HR.out.wrong
      go_wp2_with fail
      refine (take_at _ _ HR.out (Nat.le_refl _) (by omega)).mono ?_
      rintro e w2 ⟨rfl, h⟩
      have H2 := Aside.mk h
      clear h
      cases he : (s.err q == 0) with
      | false =>
        have e0 : (s.err q != 0) = true := by rw [bne, he]; rfl
        clear he
        go_wp2_with fail
        refine (awake_calls _).mono ?_
        rintro e w6 ⟨rfl, hu⟩
        have U6 := Aside.mk hu
        clear hu
        go_wp2
        go_ret
        exact ⟨rfl, below_then H2.out.below H2.out.below.size U6.out⟩
      | true =>
        have e0 : s.err q = 0 := by simpa using he
        have TW := Aside.mk (twice_facts HQ.out e0)
        rw [e0]
        clear he e0
        have v0 := H2.out.ok.wrong0
        have v1 := H2.out.wrong
        go_wp2_with fail
        refine (wrong_calls _ (s.take q).wrong _ (H2.out.blk.cell 5)).mono ?_
        rintro e w' ⟨rfl, rfl⟩
        go_wp2_with fail
        refine (take_at _ _ H2.out (Nat.le_refl _) (by omega)).mono ?_
        rintro e w3 ⟨rfl, h⟩
        rw [TW.out.1]
        have H3 := Aside.mk h
        clear h
        go_wp2_with fail
        refine (wrong_calls _ _ _ (H3.out.blk.cell 5)).mono ?_
        rintro e w' ⟨rfl, rfl⟩
        rw [TW.out.2.1]
        go_wp2_with fail
        refine (last_calls _ _ _ H3.out.blk).mono ?_
        rintro e w' ⟨rfl, rfl⟩
        rw [TW.out.2.2.1]
        go_wp2_with fail
        refine (rnext_calls _ _).mono ?_
        rintro e w' ⟨rfl, rfl⟩
        go_wp2_with fail
        refine (take_at _ _ H3.out (Nat.le_refl _) (by omega)).mono ?_
        rintro e w4 ⟨rfl, h⟩
        rw [TW.out.2.2.2]
        have H4 := Aside.mk h
        clear h
        go_wp2_with fail
        refine (awake_calls _).mono ?_
        rintro e w6 ⟨rfl, hu⟩
        have U6 := Aside.mk hu
        clear hu
        go_wp2
        go_ret
        exact ⟨rfl, below_then H4.out.below H4.out.below.size U6.out⟩
set_option maxRecDepth 100000 in
set_option maxHeartbeats 1000000 in
theorem integTwice_no (a : Option Addr) (len cap : Nat) (q : Int) (w : World) (h : q < 1 ∨ (¬ q < 1 ∧ 255 < q)) :
    Calls Try.prog 5 #[.slice a len cap, .int .i64 q] w fun e w' => e = .returned (.bool true) ∧ Below w.heap.size w w' := by
  rcases h with h | ⟨h1, h⟩
  all_goals
    go_enter Try.func5, Try.ntmps5
    go_wp2_with fail
    refine (new_calls _).mono ?_
    rintro e w1 ⟨rfl, hb, hu⟩
    have H0 := Aside.mk (At.new hb hu)
    clear hb hu
    go_wp2_with (go_at_call 11; refine (awake_calls _).mono ?_; rintro e w' ⟨rfl, hb⟩)
    go_ret
    exact ⟨rfl, below_then H0.out.below H0.out.below.size (by assumption)⟩
theorem integTwice_walk (a : Option Addr) (len cap : Nat) (L : Nat → Int) (q : Int) (w : World) (hs : Sl w a len 1 isInt L) (_ : -9223372036854775808 ≤ q ∧ q ≤ 9223372036854775807) :
    Calls Try.prog 5 #[.slice a len cap, .int .i64 q] w fun e w' => e = .returned (.bool true) ∧ Below w.heap.size w w' := by
  by_cases h : q < 1 ∨ (¬ q < 1 ∧ 255 < q)
  · exact integTwice_no a len cap q w h
  · exact integTwice_yes a len cap L q w hs (by omega)
end Go.Proofs.Ytdihndaphkibbaa
