/- The walk of BagPlays. Conditions: none. -/
import Derived.Test.YtoofekeenbllhaaWalkBagSoon
namespace Go.Proofs.Ytoofekeenbllhaa
open Go.RowKit
set_option linter.unusedVariables false
def isOp (y : Int × Int) (cs : List Value) : Prop := cs = [.int .i64 y.1, .int .i64 y.2] ∧ (-9223372036854775808 ≤ y.1 ∧ y.1 ≤ 9223372036854775807) ∧ (-9223372036854775808 ≤ y.2 ∧ y.2 ≤ 9223372036854775807)
theorem Sl.ops {w : World} {a : Option Addr} {len : Nat} {L : Nat → Int × Int} (h : Sl w a len 2 isOp L) : ∀ k, k < len → ∃ b off, a = some ⟨b, off, none⟩ ∧ w.cell? ⟨b, off + k * 2, none⟩ = some (.int .i64 (L k).1) ∧ w.cell? ⟨b, off + k * 2 + 1, none⟩ = some (.int .i64 (L k).2) ∧ (-9223372036854775808 ≤ (L k).1 ∧ (L k).1 ≤ 9223372036854775807) ∧ (-9223372036854775808 ≤ (L k).2 ∧ (L k).2 ≤ 9223372036854775807) := by
  intro k hk
  obtain ⟨b, off, ha, hx⟩ := h.2 (by omega)
  obtain ⟨cs, hl, ⟨rfl, h1, h2⟩, hc⟩ := hx k hk
  have c0 := hc 0 (by omega)
  have c1 := hc 1 (by omega)
  simp at c0 c1
  exact ⟨b, off, ha, c0, by rw [Nat.add_assoc]; exact c1, h1, h2⟩
structure PlaysRel (w : World) (g g2 : Nat) (k : Nat) (wr : World) (s : Reg) (l : Int) : Prop where
  blk : Blk wr g 51 s.cells
  rblk : Blk wr g2 44 (s.rcells l)
  ok : s.ok
  lst : s.last l
  cnt : s.cnt ≤ k
  below : Below w.heap.size w wr
/-- Inside a round: the two states, and the round's own copy of the call. -/
structure Both (w : World) (g g2 c : Nat) (ask now : Int) (wr : World) (s s2 : Reg) (l : Int) : Prop where
  blk : Blk wr g 51 s.cells
  rblk : Blk wr g2 44 (s2.rcells l)
  box : Blk wr c 42 #[.int .i64 ask, .int .i64 now]
  below : Below w.heap.size w wr
theorem Both.take {w : World} {g g2 c : Nat} {ask now : Int} {wr w1 : World} {s s1 s2 : Reg} {l : Int} (h : Both w g g2 c ask now wr s s2 l) (hg : w.heap.size ≤ g) (hb : Blk w1 g 51 s1.cells) (hu : Upon (· = g) wr w1) : Both w g g2 c ask now w1 s1 s2 l :=
  ⟨hb, hu.blk h.rblk (fun e => by subst e; have h1 := h.blk; have h2 := h.rblk; exact absurd rfl (h2.ne h1 (by decide))), hu.blk h.box (fun e => by subst e; have h1 := h.blk; have h2 := h.box; exact absurd rfl (h2.ne h1 (by decide))),
    h.below.trans (Upon.below (B := w.heap.size) hu h.below.size (fun i hi => by omega))⟩
theorem Both.rtake {w : World} {g g2 c : Nat} {ask now : Int} {wr w1 : World} {s s2 s1 : Reg} {l l1 : Int} (h : Both w g g2 c ask now wr s s2 l) (hg : w.heap.size ≤ g2) (hb : Blk w1 g2 44 (s1.rcells l1)) (hu : Upon (· = g2) wr w1) : Both w g g2 c ask now w1 s s1 l1 :=
  ⟨hu.blk h.blk (fun e => by subst e; have h1 := h.rblk; have h2 := h.blk; exact absurd rfl (h2.ne h1 (by decide))), hb, hu.blk h.box (fun e => by subst e; have h1 := h.rblk; have h2 := h.box; exact absurd rfl (h2.ne h1 (by decide))),
    h.below.trans (Upon.below (B := w.heap.size) hu h.below.size (fun i hi => by omega))⟩
theorem Both.drew {w : World} {g g2 c : Nat} {ask now : Int} {wr : World} {s s2 : Reg} {l : Int} (h : Both w g g2 c ask now wr s s2 l) : Both w g g2 c ask now wr.drew s s2 l := ⟨h.blk, h.rblk, h.box, h.below.drew⟩
theorem Both.drewN {w : World} {g g2 c : Nat} {ask now : Int} {wr : World} {s s2 : Reg} {l : Int} (h : Both w g g2 c ask now wr s s2 l) (n : Nat) : Both w g g2 c ask now (wr.drewN n) s s2 l := ⟨h.blk, h.rblk, h.box, below_drewN h.below n⟩
set_option maxRecDepth 100000 in
set_option maxHeartbeats 1000000 in
theorem bagPlays_yes (n : Int) (a : Option Addr) (len cap : Nat) (L : Nat → Int × Int) (w : World) (hn : 0 ≤ n ∧ n ≤ 7) (hs : Sl w a len 2 isOp L) :
    Calls Try.prog 7 #[.int .i64 n, .slice a len cap] w fun e w' => e = .returned (.bool true) ∧ Below w.heap.size w w' := by
  have HN := Aside.mk hn
  have HS := Aside.mk hs.ops
  have hm := hs.1
  unfold maxLen at hm
  clear hn hs
  go_enter Try.func7, Try.ntmps7
  go_wp2_with fail
  refine (new_yes _ _ HN.out).mono ?_
  rintro e w1 ⟨rfl, hb, hu⟩
  have HB1 := Aside.mk hb
  have HU1 := Aside.mk hu
  clear hb hu
  go_wp2_with fail
  refine (rnew_yes _ _ HN.out).mono ?_
  rintro e w2 ⟨rfl, hb, hu⟩
  have hgs := HB1.out.lt
  have hge := HU1.out.size
  have HR : Aside (PlaysRel w w.heap.size w1.heap.size 0 w2 (Reg.new n) 0) := ⟨⟨(hu.block _ HB1.out.lt).trans HB1.out, hb, Reg.new_ok HN.out, fun h => by simp [Reg.new] at h, by simp [Reg.new], below_then HU1.out HU1.out.size hu⟩⟩
  have HG : Aside (w.heap.size < w1.heap.size) := ⟨hgs⟩
  clear hb hu hgs hge HB1 HU1
  generalize w1.heap.size = g2 at HR HG ⊢
  go_wp2_with fail
  go_loopw [9] (fun i wr => ∃ (k : Nat) (s : Reg) (l : Int), k ≤ len ∧ k ≤ 200 ∧ i = .int .i64 k ∧ Aside (PlaysRel w w.heap.size g2 k wr s l)) (fun i _ => len - (intOf i).toNat)
  case atStart => exact ⟨0, _, 0, by omega, by omega, rfl, HR⟩
  case round =>
    clear HR
    obtain ⟨k, s, l, hk, hk100, rfl, HR⟩ := hrel
    by_cases hlt : k < len
    · by_cases hlt2 : k < 200
      · obtain ⟨b, off, ha, hcell0, hcell1, hL0, hL1⟩ := HS.out k hlt
        subst ha
        have hc0 := below_cell HR.out.below hcell0
        have hc1 := below_cell HR.out.below hcell1
        clear hcell0 hcell1
        by_cases ha0 : (L k).1 = 0
        · go_wp2_with fail
          have H0 : Aside (Both w w.heap.size g2 wr.heap.size 0 (L k).2 (wr.alloc (.cells #[.int .i64 0, .int .i64 (L k).2] 42)) s s l) := ⟨⟨HR.out.blk.alloc _, HR.out.rblk.alloc _, Blk.new _ _ _, HR.out.below.alloc HR.out.below.size _⟩⟩
          generalize wr.alloc (.cells #[.int .i64 0, .int .i64 (L k).2] 42) = wa at H0 ⊢
          have hbx : wa.cell? ⟨wr.heap.size, 1, none⟩ = some (.int .i64 (L k).2) := H0.out.box.cell 1
          generalize (L k).2 = now at *
          clear hc0 hc1
          go_region_with (first
            | (go_at_call 13; refine (take_calls _ s _ _ ?_ HR.out.ok (by have := HR.out.cnt; omega)).mono ?_; exact H0.out.blk; rintro e w2 ⟨rfl, hb, hu⟩; have HA := Aside.mk (H0.out.drew.take (Nat.le_refl _) hb hu); have hbx2 := HA.out.box.cell 1; clear hb hu)
            | (go_at_call 13; refine (take_calls _ s _ _ ?_ HR.out.ok (by have := HR.out.cnt; omega)).mono ?_; exact HB.out.1.blk; rintro e w2 ⟨rfl, hb, hu⟩; have HF := Aside.mk (And.intro (HB.out.1.take (Nat.le_refl _) hb hu) HB.out.2); have hbx2 := HF.out.1.box.cell 1; clear hb hu)
            | (go_at_call 18; refine (rtake_calls _ s l _ _ ?_ HR.out.ok HR.out.lst (by have := HR.out.cnt; omega) hL1).mono ?_; exact H0.out.rblk; rintro e w2 ⟨rfl, ⟨l1, hb, hl⟩, hu⟩; have HB := Aside.mk (And.intro (H0.out.drew.rtake (Nat.le_of_lt HG.out) hb hu) hl); have hbx2 := HB.out.1.box.cell 1; clear hb hl hu)
            | (go_at_call 18; refine (rtake_calls _ s l _ _ ?_ HR.out.ok HR.out.lst (by have := HR.out.cnt; omega) hL1).mono ?_; exact HA.out.rblk; rintro e w2 ⟨rfl, ⟨l1, hb, hl⟩, hu⟩; have HF := Aside.mk (And.intro (HA.out.rtake (Nat.le_of_lt HG.out) hb hu) hl); have hbx2 := HF.out.1.box.cell 1; clear hb hl hu))
          all_goals
            have OK : Aside (Reg.ok (s.take now) ∧ (s.take now).cnt ≤ k + 1) := ⟨Reg.take_ok HR.out.ok now, by have := Reg.take_cnt (s := s) now; have := HR.out.cnt; omega⟩
            have hb4 := HF.out.1.rblk.cell 4
            have hb0 := HF.out.1.rblk.cell 0
            simp [Reg.rcells] at hb4 hb0
            go_wp2_with fail
            go_quiet ((first | (go_at_call 16; exact Calls.quiet_of_same ((count_calls _ (s.take now).cnt _ (by exact HF.out.1.blk.cell 4)).mono fun _ _ h => ⟨h.1, h.2.symm⟩)) | (go_at_call 15; exact Calls.quiet_of_same ((period_reg _ (s.take now) _ (by exact HF.out.1.blk) OK.out.1).mono fun _ _ h => ⟨h.1, h.2.symm⟩))))
            clear hb4 hb0
            go_wp2
            go_roundw
            case rel => exact ⟨k + 1, _, _, by omega, by omega, by go_num, ⟨⟨HF.out.1.blk, HF.out.1.rblk, OK.out.1, HF.out.2, OK.out.2, below_drewN HF.out.1.below _⟩⟩⟩
            case measure => simp [intOf]; omega
        · by_cases ha1 : (L k).1 = 1
          · go_wp2_with fail
            have H0 : Aside (Both w w.heap.size g2 wr.heap.size 1 (L k).2 (wr.alloc (.cells #[.int .i64 1, .int .i64 (L k).2] 42)) s s l) := ⟨⟨HR.out.blk.alloc _, HR.out.rblk.alloc _, Blk.new _ _ _, HR.out.below.alloc HR.out.below.size _⟩⟩
            generalize wr.alloc (.cells #[.int .i64 1, .int .i64 (L k).2] 42) = wa at H0 ⊢
            have hbx : wa.cell? ⟨wr.heap.size, 1, none⟩ = some (.int .i64 (L k).2) := H0.out.box.cell 1
            generalize (L k).2 = now at *
            clear hc0 hc1 ha0 ha1
            go_quiet ((first | (go_at_call 14; exact Calls.quiet_of (when_calls _ s _ _ (by exact H0.out.blk) HR.out.ok)) | (go_at_call 19; exact Calls.quiet_of (rwhen_calls _ s l _ _ (by exact H0.out.rblk) HR.out.ok HR.out.lst))))
            have HF : Aside (Both w w.heap.size g2 wr.heap.size 1 now (wa.drewN nq) s s l ∧ s.last l) := ⟨⟨H0.out.drewN nq, HR.out.lst⟩⟩
            generalize wa.drewN nq = wb at HF ⊢
            clear hbx
            have OK : Aside (Reg.ok (s) ∧ (s).cnt ≤ k + 1) := ⟨HR.out.ok, by have := HR.out.cnt; omega⟩
            have hb4 := HF.out.1.rblk.cell 4
            have hb0 := HF.out.1.rblk.cell 0
            simp [Reg.rcells] at hb4 hb0
            go_wp2_with fail
            go_quiet ((first | (go_at_call 16; exact Calls.quiet_of_same ((count_calls _ (s).cnt _ (by exact HF.out.1.blk.cell 4)).mono fun _ _ h => ⟨h.1, h.2.symm⟩)) | (go_at_call 15; exact Calls.quiet_of_same ((period_reg _ (s) _ (by exact HF.out.1.blk) OK.out.1).mono fun _ _ h => ⟨h.1, h.2.symm⟩))))
            clear hb4 hb0
            go_wp2
            go_roundw
            case rel => exact ⟨k + 1, _, _, by omega, by omega, by go_num, ⟨⟨HF.out.1.blk, HF.out.1.rblk, OK.out.1, HF.out.2, OK.out.2, below_drewN HF.out.1.below _⟩⟩⟩
            case measure => simp [intOf]; omega
          · go_wp2_with fail
            have H0 : Aside (Both w w.heap.size g2 wr.heap.size (L k).1 (L k).2 (wr.alloc (.cells #[.int .i64 (L k).1, .int .i64 (L k).2] 42)) s s l) := ⟨⟨HR.out.blk.alloc _, HR.out.rblk.alloc _, Blk.new _ _ _, HR.out.below.alloc HR.out.below.size _⟩⟩
            generalize wr.alloc (.cells #[.int .i64 (L k).1, .int .i64 (L k).2] 42) = wa at H0 ⊢
            generalize (L k).2 = now at *
            generalize (L k).1 = ask at *
            clear hc0 hc1 ha0 ha1
            refine (reset_calls _ s _ H0.out.blk).mono ?_
            rintro e w3 ⟨rfl, hb, hu⟩
            have H1 := Aside.mk (H0.out.take (Nat.le_refl _) hb hu)
            clear hb hu
            go_wp2_with fail
            refine (rreset_calls _ s l _ H1.out.rblk).mono ?_
            rintro e w4 ⟨rfl, hb, hu⟩
            have HF : Aside (Both w w.heap.size g2 wr.heap.size ask now w4 s.reset s.reset l ∧ s.reset.last l) := ⟨⟨H1.out.rtake (Nat.le_of_lt HG.out) hb hu, fun h => by simp [Reg.reset] at h⟩⟩
            clear hb hu
            have OK : Aside (Reg.ok (s.reset) ∧ (s.reset).cnt ≤ k + 1) := ⟨Reg.reset_ok HR.out.ok, by have := HR.out.cnt; simp only [Reg.reset]; omega⟩
            have hb4 := HF.out.1.rblk.cell 4
            have hb0 := HF.out.1.rblk.cell 0
            simp [Reg.rcells] at hb4 hb0
            go_wp2_with fail
            go_quiet ((first | (go_at_call 16; exact Calls.quiet_of_same ((count_calls _ (s.reset).cnt _ (by exact HF.out.1.blk.cell 4)).mono fun _ _ h => ⟨h.1, h.2.symm⟩)) | (go_at_call 15; exact Calls.quiet_of_same ((period_reg _ (s.reset) _ (by exact HF.out.1.blk) OK.out.1).mono fun _ _ h => ⟨h.1, h.2.symm⟩))))
            clear hb4 hb0
            go_wp2
            go_roundw
            case rel => exact ⟨k + 1, _, _, by omega, by omega, by go_num, ⟨⟨HF.out.1.blk, HF.out.1.rblk, OK.out.1, HF.out.2, OK.out.2, below_drewN HF.out.1.below _⟩⟩⟩
            case measure => simp [intOf]; omega
      · go_wp2_with fail
        refine (awake_calls _).mono ?_
        rintro e w6 ⟨rfl, hu⟩
        have U6 := Aside.mk hu
        clear hu
        go_wp2
        go_ret
        exact ⟨rfl, below_then HR.out.below HR.out.below.size U6.out⟩
    · go_wp2_with fail
      refine (awake_calls _).mono ?_
      rintro e w6 ⟨rfl, hu⟩
      have U6 := Aside.mk hu
      clear hu
      go_wp2
      go_ret
      exact ⟨rfl, below_then HR.out.below HR.out.below.size U6.out⟩
set_option maxRecDepth 100000 in
set_option maxHeartbeats 1000000 in
theorem bagPlays_no (n : Int) (a : Option Addr) (len cap : Nat) (w : World) (hn : ¬ (0 ≤ n ∧ n ≤ 7)) :
    Calls Try.prog 7 #[.int .i64 n, .slice a len cap] w fun e w' => e = .returned (.bool true) ∧ Below w.heap.size w w' := by
  have HN := Aside.mk hn
  clear hn
  go_enter Try.func7, Try.ntmps7
  go_wp2_with (first | (go_at_call 12; refine (new_no _ _ HN.out).mono ?_; rintro e w' ⟨rfl, rfl⟩) | (go_at_call 17; refine (rnew_no _ _ HN.out).mono ?_; rintro e w' ⟨rfl, rfl⟩) | (go_at_call 11; refine (awake_calls _).mono ?_; rintro e w' ⟨rfl, hb⟩))
  go_ret
  exact ⟨rfl, by assumption⟩
theorem bagPlays_walk (n : Int) (a : Option Addr) (len cap : Nat) (L : Nat → Int × Int) (w : World) (_ : -9223372036854775808 ≤ n ∧ n ≤ 9223372036854775807) (hs : Sl w a len 2 isOp L) :
    Calls Try.prog 7 #[.int .i64 n, .slice a len cap] w fun e w' => e = .returned (.bool true) ∧ Below w.heap.size w w' := by
  by_cases hn : 0 ≤ n ∧ n ≤ 7
  · exact bagPlays_yes n a len cap L w hn hs
  · exact bagPlays_no n a len cap w hn
end Go.Proofs.Ytoofekeenbllhaa
