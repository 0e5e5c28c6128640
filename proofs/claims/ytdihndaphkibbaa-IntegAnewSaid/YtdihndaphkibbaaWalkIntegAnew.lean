/- The walk of IntegAnew. Conditions: none. -/
import Derived.Test.YtdihndaphkibbaaInteg
namespace Go.Proofs.Ytdihndaphkibbaa
open Go.RowKit
set_option linter.unusedVariables false
theorem anew_facts (s : Jdg) {q : Int} (hq : 0 ≤ q ∧ q ≤ 255) : s.reset.err q = 0 ∧ (s.reset.take q).lastOf = q ∧ (s.reset.take q).lost = s.lost ∧ (s.reset.take q).wrong = s.wrong := by
  have n : ¬ ¬ (0 ≤ q ∧ q ≤ 255) := by omega
  have hm : s.reset.may q = true := rfl
  have e : s.reset.err q = if s.reset.may q then 0 else 25 := if_neg n
  have e2 : s.reset.take q = if s.reset.may q then { s.reset with seen := true, last := q, odd := false, lost := if s.reset.gap q then s.reset.lost + 1 else s.reset.lost } else { s.reset with other := q, odd := true, wrong := s.reset.wrong + 1 } := if_neg n
  rw [e, e2, hm]
  exact ⟨rfl, rfl, rfl, rfl⟩
theorem At.reset {w wr w1 : World} {g : Nat} {s : Jdg} {n : Int} (h : At w g wr s n) (hg : w.heap.size ≤ g) (hb : Blk w1 g 42 s.reset.cells) (hu : Upon (· = g) wr w1) : At w g w1 s.reset n :=
  ⟨hb, Jdg.reset_ok h.ok, h.lost, h.wrong, h.below.trans (Upon.below (B := w.heap.size) hu (by exact h.below.size) (fun i hi => by omega))⟩
set_option maxRecDepth 100000 in
set_option maxHeartbeats 1000000 in
theorem integAnew_yes (a : Option Addr) (len cap : Nat) (L : Nat → Int) (q : Int) (w : World) (hs : Sl w a len 1 isInt L) (hq : 0 ≤ q ∧ q ≤ 255) (hlen : len ≤ 200) :
    Calls Try.prog 8 #[.slice a len cap, .int .i64 q] w fun e w' => e = .returned (.bool true) ∧ Below w.heap.size w w' := by
  have HS := Aside.mk hs.ints
  have HQ := Aside.mk hq
  obtain ⟨q0, q1⟩ := hq
  clear hs
  go_enter Try.func8, Try.ntmps8
  go_wp2_with fail
  refine (new_calls _).mono ?_
  rintro e w1 ⟨rfl, hb, hu⟩
  have H0 := Aside.mk (At.new hb hu)
  clear hb hu
  go_wp2_with fail
  go_loopw [6] (fun i wr => ∃ (k : Nat) (s : Jdg), k ≤ len ∧ i = .int .i64 k ∧ Aside (At w w.heap.size wr s k)) (fun i _ => len - (intOf i).toNat)
  case atStart => exact ⟨0, _, by omega, rfl, H0⟩
  case round =>
    clear H0
    obtain ⟨k, s, hk, rfl, HR⟩ := hrel
    by_cases hlt : k < len
    · obtain ⟨b, off, ha, hcell, hL0, hL1⟩ := HS.out k hlt
      subst ha
      have hcell' := below_cell HR.out.below hcell
      clear hcell
      go_wp2_with fail
      refine (take_at _ _ HR.out (Nat.le_refl _) (by omega)).mono ?_
      rintro e w2 ⟨rfl, h⟩
      have H2 := Aside.mk h
      clear h hcell'
      go_wp2
      go_roundw
      case rel => exact ⟨k + 1, _, by omega, by go_num, H2⟩
      case measure => simp [intOf]; omega
    · have AN := Aside.mk (anew_facts s HQ.out)
      have l0 := HR.out.ok.lost0
      have l1 := HR.out.lost
      have w0 := HR.out.ok.wrong0
      have w1 := HR.out.wrong
      go_wp2_with fail
      refine (lost_calls _ s.lost _ (HR.out.blk.cell 4)).mono ?_
      rintro e w' ⟨rfl, rfl⟩
      go_wp2_with fail
      refine (wrong_calls _ s.wrong _ (HR.out.blk.cell 5)).mono ?_
      rintro e w' ⟨rfl, rfl⟩
      go_wp2_with fail
      refine (reset_calls _ s _ HR.out.blk).mono ?_
      rintro e w2 ⟨rfl, hb, hu⟩
      have H2 := Aside.mk (HR.out.reset (Nat.le_refl _) hb hu)
      clear hb hu
      go_wp2_with fail
      refine (last_calls _ s.reset _ H2.out.blk).mono ?_
      rintro e w' ⟨rfl, rfl⟩
      rw [show s.reset.lastOf = -1 from rfl]
      go_wp2_with fail
      refine (lost_calls _ s.lost _ (H2.out.blk.cell 4)).mono ?_
      rintro e w' ⟨rfl, rfl⟩
      go_wp2_with fail
      refine (wrong_calls _ s.wrong _ (H2.out.blk.cell 5)).mono ?_
      rintro e w' ⟨rfl, rfl⟩
      go_wp2_with fail
      refine (take_at _ _ H2.out (Nat.le_refl _) (by omega)).mono ?_
      rintro e w3 ⟨rfl, h⟩
      rw [AN.out.1]
      have H3 := Aside.mk h
      clear h
      go_wp2_with fail
      refine (last_calls _ _ _ H3.out.blk).mono ?_
      rintro e w' ⟨rfl, rfl⟩
      rw [AN.out.2.1]
      go_wp2_with fail
      refine (lost_calls _ _ _ (H3.out.blk.cell 4)).mono ?_
      rintro e w' ⟨rfl, rfl⟩
      rw [AN.out.2.2.1]
      go_wp2_with fail
      refine (wrong_calls _ _ _ (H3.out.blk.cell 5)).mono ?_
      rintro e w' ⟨rfl, rfl⟩
      rw [AN.out.2.2.2]
      go_wp2_with fail
      refine (awake_calls _).mono ?_
      rintro e w6 ⟨rfl, hu⟩
      have U6 := Aside.mk hu
      clear hu
      go_wp2
      go_ret
      exact ⟨rfl, below_then H3.out.below H3.out.below.size U6.out⟩
set_option maxRecDepth 100000 in
set_option maxHeartbeats 1000000 in
theorem integAnew_no (a : Option Addr) (len cap : Nat) (q : Int) (w : World) (hm : len ≤ 9223372036854775807) (h : q < 0 ∨ (¬ q < 0 ∧ 255 < q) ∨ (¬ q < 0 ∧ ¬ 255 < q ∧ 200 < len)) :
    Calls Try.prog 8 #[.slice a len cap, .int .i64 q] w fun e w' => e = .returned (.bool true) ∧ Below w.heap.size w w' := by
  rcases h with h | ⟨h1, h⟩ | ⟨h1, h2, h⟩
  all_goals
    go_enter Try.func8, Try.ntmps8
    go_wp2_with fail
    refine (new_calls _).mono ?_
    rintro e w1 ⟨rfl, hb, hu⟩
    have H0 := Aside.mk (At.new hb hu)
    clear hb hu
    go_wp2_with (go_at_call 11; refine (awake_calls _).mono ?_; rintro e w' ⟨rfl, hb⟩)
    go_ret
    exact ⟨rfl, below_then H0.out.below H0.out.below.size (by assumption)⟩
theorem integAnew_walk (a : Option Addr) (len cap : Nat) (L : Nat → Int) (q : Int) (w : World) (hs : Sl w a len 1 isInt L) (_ : -9223372036854775808 ≤ q ∧ q ≤ 9223372036854775807) :
    Calls Try.prog 8 #[.slice a len cap, .int .i64 q] w fun e w' => e = .returned (.bool true) ∧ Below w.heap.size w w' := by
  have hm := hs.1
  unfold maxLen at hm
  by_cases h : q < 0 ∨ (¬ q < 0 ∧ 255 < q) ∨ (¬ q < 0 ∧ ¬ 255 < q ∧ 200 < len)
  · exact integAnew_no a len cap q w (by omega) h
  · exact integAnew_yes a len cap L q w hs (by omega) (by omega)
end Go.Proofs.Ytdihndaphkibbaa
