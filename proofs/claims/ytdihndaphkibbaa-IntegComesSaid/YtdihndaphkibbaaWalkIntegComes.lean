/- The walk of IntegComes. Conditions: none. -/
import Derived.Test.YtdihndaphkibbaaRef
namespace Go.Proofs.Ytdihndaphkibbaa
open Go.RowKit
set_option linter.unusedVariables false
/-- After some frames: the judge, the next number, is the last one lost, how many were lost, did one come. -/
structure Com (s : Jdg) (q : Int) (gone : Bool) (count : Int) (came : Bool) : Prop where
  seen : s.seen = came
  odd : s.odd = false
  wrong : s.wrong = 0
  lost : s.lost = count
  q0 : 0 ≤ q ∧ q ≤ 255
  l0 : 0 ≤ s.last ∧ s.last ≤ 255
  num : came = true → q = if gone then next (next s.last) else next s.last
theorem Com.loses {s : Jdg} {q : Int} {count : Int} {came : Bool} (h : Com s q false count came) : Com s (next q) true count came := by
  have := next_range q
  refine ⟨h.seen, h.odd, h.wrong, h.lost, by omega, h.l0, fun hc => ?_⟩
  rw [h.num hc]
  simp
theorem Com.takes {s : Jdg} {q : Int} {gone : Bool} {count : Int} {came : Bool} (h : Com s q gone count came) : s.err q = 0 ∧ (s.take q).lastOf = q ∧ Com (s.take q) (next q) false (if gone && came then count + 1 else count) true := by
  have n : ¬ ¬ (0 ≤ q ∧ q ≤ 255) := by have := h.q0; omega
  have hq := next_range q
  have h1 := next_range s.last
  have hst := step_next h.l0
  have key : s.may q = true ∧ s.gap q = (gone && came) := by
    cases hc : came with
    | false =>
      have hs := h.seen
      rw [hc] at hs
      unfold Jdg.may Jdg.first Jdg.gap
      rw [hs]
      simp
    | true =>
      have hs := h.seen
      rw [hc] at hs
      have hn := h.num hc
      unfold Jdg.may Jdg.near Jdg.gap
      cases hg : gone with
      | false =>
        rw [hg] at hn
        simp only [Bool.false_eq_true, if_false] at hn
        rw [hn, hst, hs]
        simp
      | true =>
        rw [hg] at hn
        simp only [if_true] at hn
        have : step s.last (next (next s.last)) = 2 := by rw [step_succ h.l0 h1 (by omega), hst]; rfl
        rw [hn, this, hs]
        simp
  have e : s.err q = 0 := by unfold Jdg.err; rw [if_neg n, key.1]; rfl
  have e2 : s.take q = { s with seen := true, last := q, odd := false, lost := if s.gap q then s.lost + 1 else s.lost } := by unfold Jdg.take; rw [if_neg n, key.1]; rfl
  refine ⟨e, by rw [e2]; rfl, ?_⟩
  rw [e2, key.2]
  exact ⟨rfl, rfl, h.wrong, by simp only [h.lost], by omega, h.q0, fun _ => by simp⟩
set_option maxRecDepth 100000 in
set_option maxHeartbeats 2000000 in
theorem integComes_walk (a : Option Addr) (len cap : Nat) (L : Nat → Bool) (w : World) (hs : Sl w a len 1 isBool L) :
    Calls Try.prog 4 #[.slice a len cap] w fun e w' => e = .returned (.bool true) ∧ Below w.heap.size w w' := by
  have HS := Aside.mk hs.bools
  have hm := hs.1
  unfold maxLen at hm
  clear hs
  go_enter Try.func4, Try.ntmps4
  go_wp2_with fail
  refine (new_calls _).mono ?_
  rintro e w1 ⟨rfl, hb, hu⟩
  have H0 := Aside.mk (At.new hb hu)
  clear hb hu
  go_wp2_with fail
  go_loopw [4, 5, 6, 7, 8] (fun vq vg vc vm i wr => ∃ (k : Nat) (s : Jdg) (q : Int) (gone : Bool) (count : Int) (came : Bool), k ≤ len ∧ k ≤ 600 ∧ i = .int .i64 k ∧ vq = .int .i64 q ∧ vg = .bool gone ∧ vc = .int .i64 count ∧ vm = .bool came ∧ Aside (At w w.heap.size wr s k ∧ Com s q gone count came)) (fun _ _ _ _ i _ => len - (intOf i).toNat)
  case atStart => exact ⟨0, _, 0, false, 0, false, by omega, by omega, rfl, rfl, rfl, rfl, rfl, ⟨H0.out, ⟨rfl, rfl, rfl, rfl, by omega, by simp [Jdg.new], fun h => by cases h⟩⟩⟩
  case round =>
    clear H0
    obtain ⟨k, s, q, gone, count, came, hk, hk100, rfl, rfl, rfl, rfl, rfl, HR⟩ := hrel
    have hc0 := HR.out.2.lost
    have hl0 := HR.out.1.ok.lost0
    have hl1 := HR.out.1.lost
    have hcnt0 : 0 ≤ count := by omega
    have hcnt1 : count ≤ k := by omega
    clear hc0 hl0 hl1
    by_cases hlt : k < len
    · by_cases hlt2 : k < 600
      · obtain ⟨b, off, ha, hcell⟩ := HS.out k hlt
        subst ha
        have hcell' := below_cell HR.out.1.below hcell
        clear hcell
        have rest : ∀ (x : Bool), x = L k → (x = true → gone = true) → True := fun _ _ _ => trivial
        clear rest
        by_cases hlose : L k = true ∧ gone = false
        · obtain ⟨h1, h2⟩ := hlose
          subst h2
          rw [h1] at hcell'
          have H2 := Aside.mk (And.intro (HR.out.1.mono (m := k + 1) (by omega)) HR.out.2.loses)
          clear h1
          go_wp2_with (go_at_call 15; refine (rnext_calls _ _).mono ?_; rintro e w' ⟨rfl, rfl⟩)
          go_roundw
          case rel => exact ⟨k + 1, _, _, _, _, _, by omega, by omega, by go_num, rfl, rfl, rfl, rfl, H2⟩
          case measure => simp [intOf]; omega
        · have TK := Aside.mk HR.out.2.takes
          cases hx : L k with
          | false =>
            rw [hx] at hcell'
            clear hx hlose
            cases gone with
            | true =>
              cases came with
              | true =>
                go_wp2_with fail
                refine (take_at _ _ HR.out.1 (Nat.le_refl _) (by omega)).mono ?_
                rintro e w2 ⟨rfl, h⟩
                rw [TK.out.1]
                have H2 := Aside.mk (And.intro h TK.out.2.2)
                clear h hcell'
                go_wp2_with fail
                refine (last_calls _ _ _ H2.out.1.blk).mono ?_
                rintro e w' ⟨rfl, rfl⟩
                rw [TK.out.2.1]
                go_wp2_with (go_at_call 15; refine (rnext_calls _ _).mono ?_; rintro e w' ⟨rfl, rfl⟩)
                go_roundw
                case rel => exact ⟨k + 1, _, _, _, _, _, by omega, by omega, by go_num, rfl, rfl, rfl, rfl, H2⟩
                case measure => simp [intOf]; omega
              | false =>
                go_wp2_with fail
                refine (take_at _ _ HR.out.1 (Nat.le_refl _) (by omega)).mono ?_
                rintro e w2 ⟨rfl, h⟩
                rw [TK.out.1]
                have H2 := Aside.mk (And.intro h TK.out.2.2)
                clear h hcell'
                go_wp2_with fail
                refine (last_calls _ _ _ H2.out.1.blk).mono ?_
                rintro e w' ⟨rfl, rfl⟩
                rw [TK.out.2.1]
                go_wp2_with (go_at_call 15; refine (rnext_calls _ _).mono ?_; rintro e w' ⟨rfl, rfl⟩)
                go_roundw
                case rel => exact ⟨k + 1, _, _, _, _, _, by omega, by omega, by go_num, rfl, rfl, rfl, rfl, H2⟩
                case measure => simp [intOf]; omega
            | false =>
              go_wp2_with fail
              refine (take_at _ _ HR.out.1 (Nat.le_refl _) (by omega)).mono ?_
              rintro e w2 ⟨rfl, h⟩
              rw [TK.out.1]
              have H2 := Aside.mk (And.intro h TK.out.2.2)
              clear h hcell'
              go_wp2_with fail
              refine (last_calls _ _ _ H2.out.1.blk).mono ?_
              rintro e w' ⟨rfl, rfl⟩
              rw [TK.out.2.1]
              go_wp2_with (go_at_call 15; refine (rnext_calls _ _).mono ?_; rintro e w' ⟨rfl, rfl⟩)
              go_roundw
              case rel => exact ⟨k + 1, _, _, _, _, _, by omega, by omega, by go_num, rfl, rfl, rfl, rfl, H2⟩
              case measure => simp [intOf]; omega
          | true =>
            rw [hx] at hcell'
            have hg : gone = true := by
              cases hgg : gone with
              | true => rfl
              | false => exact absurd ⟨hx, hgg⟩ hlose
            subst hg
            clear hx hlose
            cases came with
            | true =>
              go_wp2_with fail
              refine (take_at _ _ HR.out.1 (Nat.le_refl _) (by omega)).mono ?_
              rintro e w2 ⟨rfl, h⟩
              rw [TK.out.1]
              have H2 := Aside.mk (And.intro h TK.out.2.2)
              clear h hcell'
              go_wp2_with fail
              refine (last_calls _ _ _ H2.out.1.blk).mono ?_
              rintro e w' ⟨rfl, rfl⟩
              rw [TK.out.2.1]
              go_wp2_with (go_at_call 15; refine (rnext_calls _ _).mono ?_; rintro e w' ⟨rfl, rfl⟩)
              go_roundw
              case rel => exact ⟨k + 1, _, _, _, _, _, by omega, by omega, by go_num, rfl, rfl, rfl, rfl, H2⟩
              case measure => simp [intOf]; omega
            | false =>
              go_wp2_with fail
              refine (take_at _ _ HR.out.1 (Nat.le_refl _) (by omega)).mono ?_
              rintro e w2 ⟨rfl, h⟩
              rw [TK.out.1]
              have H2 := Aside.mk (And.intro h TK.out.2.2)
              clear h hcell'
              go_wp2_with fail
              refine (last_calls _ _ _ H2.out.1.blk).mono ?_
              rintro e w' ⟨rfl, rfl⟩
              rw [TK.out.2.1]
              go_wp2_with (go_at_call 15; refine (rnext_calls _ _).mono ?_; rintro e w' ⟨rfl, rfl⟩)
              go_roundw
              case rel => exact ⟨k + 1, _, _, _, _, _, by omega, by omega, by go_num, rfl, rfl, rfl, rfl, H2⟩
              case measure => simp [intOf]; omega
      · have hc4 : (s.lost == count) = true := by rw [beq_iff_eq]; exact HR.out.2.lost
        have hw4 := HR.out.2.wrong
        have HW := Aside.mk hw4
        clear hw4
        go_wp2_with fail
        refine (lost_calls _ s.lost _ (HR.out.1.blk.cell 4)).mono ?_
        rintro e w' ⟨rfl, rfl⟩
        go_wp2_with fail
        refine (wrong_calls _ s.wrong _ (HR.out.1.blk.cell 5)).mono ?_
        rintro e w' ⟨rfl, rfl⟩
        rw [HW.out]
        go_wp2_with fail
        refine (awake_calls _).mono ?_
        rintro e w6 ⟨rfl, hu⟩
        have U6 := Aside.mk hu
        clear hu
        go_wp2
        go_ret
        exact ⟨rfl, below_then HR.out.1.below HR.out.1.below.size U6.out⟩
    · have hc4 : (s.lost == count) = true := by rw [beq_iff_eq]; exact HR.out.2.lost
      have hw4 := HR.out.2.wrong
      have HW := Aside.mk hw4
      clear hw4
      go_wp2_with fail
      refine (lost_calls _ s.lost _ (HR.out.1.blk.cell 4)).mono ?_
      rintro e w' ⟨rfl, rfl⟩
      go_wp2_with fail
      refine (wrong_calls _ s.wrong _ (HR.out.1.blk.cell 5)).mono ?_
      rintro e w' ⟨rfl, rfl⟩
      rw [HW.out]
      go_wp2_with fail
      refine (awake_calls _).mono ?_
      rintro e w6 ⟨rfl, hu⟩
      have U6 := Aside.mk hu
      clear hu
      go_wp2
      go_ret
      exact ⟨rfl, below_then HR.out.1.below HR.out.1.below.size U6.out⟩
end Go.Proofs.Ytdihndaphkibbaa
