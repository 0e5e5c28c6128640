/- The walk of IntegJudges. Conditions: none. -/
import Derived.Test.YtdihndaphkibbaaRef
namespace Go.Proofs.Ytdihndaphkibbaa
open Go.RowKit
set_option linter.unusedVariables false
/-- The two judges, the code's and the reference's. -/
structure Two (w : World) (g g2 : Nat) (wr : World) (s s2 : Jdg) : Prop where
  blk : Blk wr g 42 s.cells
  rblk : Blk wr g2 38 s2.rcells
  below : Below w.heap.size w wr
theorem Two.take {w : World} {g g2 : Nat} {wr w1 : World} {s s1 s2 : Jdg} (h : Two w g g2 wr s s2) (hg : w.heap.size ≤ g) (hb : Blk w1 g 42 s1.cells) (hu : Upon (· = g) wr w1) : Two w g g2 w1 s1 s2 :=
  ⟨hb, hu.blk h.rblk (fun e => by subst e; have h1 := h.blk; have h2 := h.rblk; exact absurd rfl (h2.ne h1 (by decide))), h.below.trans (Upon.below (B := w.heap.size) hu h.below.size (fun i hi => by omega))⟩
theorem Two.rtake {w : World} {g g2 : Nat} {wr w1 : World} {s s1 s2 : Jdg} (h : Two w g g2 wr s s2) (hg : w.heap.size ≤ g2) (hb : Blk w1 g2 38 s1.rcells) (hu : Upon (· = g2) wr w1) : Two w g g2 w1 s s1 :=
  ⟨hu.blk h.blk (fun e => by subst e; have h1 := h.rblk; have h2 := h.blk; exact absurd rfl (h2.ne h1 (by decide))), hb, h.below.trans (Upon.below (B := w.heap.size) hu h.below.size (fun i hi => by omega))⟩
theorem Two.drew {w : World} {g g2 : Nat} {wr : World} {s s2 : Jdg} (h : Two w g g2 wr s s2) : Two w g g2 wr.drew s s2 := ⟨h.blk, h.rblk, h.below.drew⟩
theorem Two.drewN {w : World} {g g2 : Nat} {wr : World} {s s2 : Jdg} (h : Two w g g2 wr s s2) (n : Nat) : Two w g g2 (wr.drewN n) s s2 := ⟨h.blk, h.rblk, below_drewN h.below n⟩
structure Fits (s : Jdg) (k : Int) : Prop where
  ok : s.ok
  lost : s.lost ≤ k
  wrong : s.wrong ≤ k
theorem Fits.take {s : Jdg} {k : Int} (h : Fits s k) (q : Int) : Fits (s.take q) (k + 1) := ⟨Jdg.take_ok h.ok q, by have := (s.take_cnt q).1; have := h.lost; omega, by have := (s.take_cnt q).2; have := h.wrong; omega⟩
theorem Fits.reset {s : Jdg} {k : Int} (h : Fits s k) : Fits s.reset (k + 1) := ⟨Jdg.reset_ok h.ok, by have := h.lost; simp only [Jdg.reset]; omega, by have := h.wrong; simp only [Jdg.reset]; omega⟩
set_option maxRecDepth 100000 in
set_option maxHeartbeats 2000000 in
theorem integJudges_walk (a : Option Addr) (len cap : Nat) (L : Nat → Int) (w : World) (hs : Sl w a len 1 isInt L) :
    Calls Try.prog 6 #[.slice a len cap] w fun e w' => e = .returned (.bool true) ∧ Below w.heap.size w w' := by
  have HS := Aside.mk hs.ints
  have hm := hs.1
  unfold maxLen at hm
  clear hs
  go_enter Try.func6, Try.ntmps6
  go_wp2_with fail
  refine (new_calls _).mono ?_
  rintro e w1 ⟨rfl, hb, hu⟩
  have HB1 := Aside.mk hb
  have HU1 := Aside.mk hu
  clear hb hu
  go_wp2_with fail
  refine (rnew_calls _).mono ?_
  rintro e w2 ⟨rfl, hb, hu⟩
  have hgs := HB1.out.lt
  have HR : Aside (Two w w.heap.size w1.heap.size w2 Jdg.new Jdg.new ∧ Fits Jdg.new 0) := ⟨⟨(hu.block _ HB1.out.lt).trans HB1.out, hb, below_then HU1.out HU1.out.size hu⟩, ⟨Jdg.new_ok, by simp [Jdg.new], by simp [Jdg.new]⟩⟩
  have HG : Aside (w.heap.size < w1.heap.size) := ⟨hgs⟩
  clear hb hu hgs HB1 HU1
  generalize w1.heap.size = g2 at HR HG ⊢
  go_wp2_with fail
  go_loopw [5] (fun i wr => ∃ (k : Nat) (s : Jdg), k ≤ len ∧ k ≤ 300 ∧ i = .int .i64 k ∧ Aside (Two w w.heap.size g2 wr s s ∧ Fits s k)) (fun i _ => len - (intOf i).toNat)
  case atStart => exact ⟨0, _, by omega, by omega, rfl, HR⟩
  case round =>
    clear HR
    obtain ⟨k, s, hk, hk100, rfl, HR⟩ := hrel
    by_cases hlt : k < len
    · by_cases hlt2 : k < 300
      · obtain ⟨b, off, ha, hcell, hL0, hL1⟩ := HS.out k hlt
        subst ha
        have HC := Aside.mk hcell
        have hcell' := below_cell HR.out.1.below hcell
        clear hcell
        by_cases h2 : L k = -2
        · rw [h2] at hcell'
          go_wp2_with fail
          refine (reset_calls _ s _ HR.out.1.blk).mono ?_
          rintro e w3 ⟨rfl, hb, hu⟩
          have H1 := Aside.mk (HR.out.1.take (Nat.le_refl _) hb hu)
          clear hb hu hcell'
          go_wp2_with fail
          refine (rreset_calls _ s _ H1.out.rblk).mono ?_
          rintro e w4 ⟨rfl, hb, hu⟩
          have HF : Aside (Two w w.heap.size g2 w4 s.reset s.reset ∧ Fits s.reset (k + 1)) := ⟨H1.out.rtake (Nat.le_of_lt HG.out) hb hu, HR.out.2.reset⟩
          clear hb hu
          have hb0 := HF.out.1.rblk.cell 0
          have hb2 := HF.out.1.rblk.cell 2
          have hb3 := HF.out.1.rblk.cell 3
          simp [Jdg.rcells] at hb0 hb2 hb3
          go_wp2_with fail
          go_quiet ((first | (go_at_call 14; exact Calls.quiet_of_same ((last_calls _ (s.reset) _ (by exact HF.out.1.blk)).mono fun _ _ h => ⟨h.1, h.2.symm⟩)) | (go_at_call 16; exact Calls.quiet_of_same ((lost_calls _ (s.reset).lost _ (by exact HF.out.1.blk.cell 4)).mono fun _ _ h => ⟨h.1, h.2.symm⟩)) | (go_at_call 17; exact Calls.quiet_of_same ((wrong_calls _ (s.reset).wrong _ (by exact HF.out.1.blk.cell 5)).mono fun _ _ h => ⟨h.1, h.2.symm⟩))))
          clear hb0 hb2 hb3
          go_wp2
          go_roundw
          case rel => exact ⟨k + 1, _, by omega, by omega, by go_num, ⟨⟨HF.out.1.drewN _, HF.out.2⟩⟩⟩
          case measure => simp [intOf]; omega
        · go_wp2_with fail
          generalize L k = now at *
          go_region_with (first
            | (go_at_call 13; refine (take_calls _ s _ _ ?_ HR.out.2.ok (by have := HR.out.2.lost; omega) (by have := HR.out.2.wrong; omega)).mono ?_; exact HR.out.1.blk; rintro e w2 ⟨rfl, hb, hu⟩; have HA := Aside.mk (HR.out.1.drew.take (Nat.le_refl _) hb hu); have hbx2 := below_cell HA.out.below HC.out; clear hb hu)
            | (go_at_call 13; refine (take_calls _ s _ _ ?_ HR.out.2.ok (by have := HR.out.2.lost; omega) (by have := HR.out.2.wrong; omega)).mono ?_; exact HB.out.blk; rintro e w2 ⟨rfl, hb, hu⟩; have HF := Aside.mk (And.intro (HB.out.take (Nat.le_refl _) hb hu) (HR.out.2.take now)); clear hb hu)
            | (go_at_call 21; refine (rtake_calls _ s _ _ ?_ HR.out.2.ok (by have := HR.out.2.lost; omega) (by have := HR.out.2.wrong; omega)).mono ?_; exact HR.out.1.rblk; rintro e w2 ⟨rfl, hb, hu⟩; have HB := Aside.mk (HR.out.1.drew.rtake (Nat.le_of_lt HG.out) hb hu); have hbx2 := below_cell HB.out.below HC.out; clear hb hu)
            | (go_at_call 21; refine (rtake_calls _ s _ _ ?_ HR.out.2.ok (by have := HR.out.2.lost; omega) (by have := HR.out.2.wrong; omega)).mono ?_; exact HA.out.rblk; rintro e w2 ⟨rfl, hb, hu⟩; have HF := Aside.mk (And.intro (HA.out.rtake (Nat.le_of_lt HG.out) hb hu) (HR.out.2.take now)); clear hb hu))
          all_goals
            have hb0 := HF.out.1.rblk.cell 0
            have hb2 := HF.out.1.rblk.cell 2
            have hb3 := HF.out.1.rblk.cell 3
            simp [Jdg.rcells] at hb0 hb2 hb3
            go_wp2_with fail
            go_quiet ((first | (go_at_call 14; exact Calls.quiet_of_same ((last_calls _ (s.take now) _ (by exact HF.out.1.blk)).mono fun _ _ h => ⟨h.1, h.2.symm⟩)) | (go_at_call 16; exact Calls.quiet_of_same ((lost_calls _ (s.take now).lost _ (by exact HF.out.1.blk.cell 4)).mono fun _ _ h => ⟨h.1, h.2.symm⟩)) | (go_at_call 17; exact Calls.quiet_of_same ((wrong_calls _ (s.take now).wrong _ (by exact HF.out.1.blk.cell 5)).mono fun _ _ h => ⟨h.1, h.2.symm⟩))))
            clear hb0 hb2 hb3
            go_wp2
            go_roundw
            case rel => exact ⟨k + 1, _, by omega, by omega, by go_num, ⟨⟨HF.out.1.drewN _, HF.out.2⟩⟩⟩
            case measure => simp [intOf]; omega
      · go_wp2_with fail
        refine (awake_calls _).mono ?_
        rintro e w6 ⟨rfl, hu⟩
        have U6 := Aside.mk hu
        clear hu
        go_wp2
        go_ret
        exact ⟨rfl, below_then HR.out.1.below HR.out.1.below.size U6.out⟩
    · go_wp2_with fail
      refine (awake_calls _).mono ?_
      rintro e w6 ⟨rfl, hu⟩
      have U6 := Aside.mk hu
      clear hu
      go_wp2
      go_ret
      exact ⟨rfl, below_then HR.out.1.below HR.out.1.below.size U6.out⟩
end Go.Proofs.Ytdihndaphkibbaa
