/- The walk of PolicePlays. Conditions: none. -/
import Derived.Test.YtkckfghmdkeobaaRefA
namespace Go.Proofs.Ytkckfghmdkeobaa
open Go.RowKit
set_option linter.unusedVariables false
/-- Inside a round: the two accounts, and the round's own copy of the frame. -/
structure Both (w : World) (g g2 c : Nat) (now bytes : Int) (wr : World) (s s2 : Acc) : Prop where
  blk : Blk wr g 55 s.cells
  rblk : Blk wr g2 46 s2.cells
  box : Blk wr c 35 #[.int .i64 now, .int .i64 bytes]
  below : Below w.heap.size w wr
theorem Both.take {w : World} {g g2 c : Nat} {now bytes : Int} {wr w1 : World} {s s1 s2 : Acc} (h : Both w g g2 c now bytes wr s s2) (hg : w.heap.size ≤ g) (hb : Blk w1 g 55 s1.cells) (hu : Upon (· = g) wr w1) : Both w g g2 c now bytes w1 s1 s2 :=
  ⟨hb, hu.blk h.rblk (fun e => by subst e; have h1 := h.blk; have h2 := h.rblk; exact absurd rfl (h2.ne h1 (by decide))), hu.blk h.box (fun e => by subst e; have h1 := h.blk; have h2 := h.box; exact absurd rfl (h2.ne h1 (by decide))),
    h.below.trans (Upon.below (B := w.heap.size) hu h.below.size (fun i hi => by omega))⟩
theorem Both.rtake {w : World} {g g2 c : Nat} {now bytes : Int} {wr w1 : World} {s s1 s2 : Acc} (h : Both w g g2 c now bytes wr s s2) (hg : w.heap.size ≤ g2) (hb : Blk w1 g2 46 s1.cells) (hu : Upon (· = g2) wr w1) : Both w g g2 c now bytes w1 s s1 :=
  ⟨hu.blk h.blk (fun e => by subst e; have h1 := h.rblk; have h2 := h.blk; exact absurd rfl (h2.ne h1 (by decide))), hb, hu.blk h.box (fun e => by subst e; have h1 := h.rblk; have h2 := h.box; exact absurd rfl (h2.ne h1 (by decide))),
    h.below.trans (Upon.below (B := w.heap.size) hu h.below.size (fun i hi => by omega))⟩
theorem Both.then {w : World} {g g2 c : Nat} {now bytes : Int} {wr w1 : World} {s s2 : Acc} (h : Both w g g2 c now bytes wr s s2) (hu : Below wr.heap.size wr w1) : Both w g g2 c now bytes w1 s s2 :=
  ⟨h.blk.below hu, h.rblk.below hu, h.box.below hu, below_then h.below h.below.size hu⟩
theorem Both.drew {w : World} {g g2 c : Nat} {now bytes : Int} {wr : World} {s s2 : Acc} (h : Both w g g2 c now bytes wr s s2) : Both w g g2 c now bytes wr.drew s s2 := ⟨h.blk, h.rblk, h.box, h.below.drew⟩
theorem Both.drewN {w : World} {g g2 c : Nat} {now bytes : Int} {wr : World} {s s2 : Acc} (h : Both w g g2 c now bytes wr s s2) (n : Nat) : Both w g g2 c now bytes (wr.drewN n) s s2 := ⟨h.blk, h.rblk, h.box, below_drewN h.below n⟩
structure Fits (s : Acc) (k : Int) : Prop where
  ok : s.ok
  passed : s.passed ≤ k
  dropped : s.dropped ≤ k
structure Two (w : World) (g g2 : Nat) (wr : World) (s : Acc) : Prop where
  blk : Blk wr g 55 s.cells
  rblk : Blk wr g2 46 s.cells
  below : Below w.heap.size w wr
theorem rcredit_zero (g : Nat) (s : Acc) (w : World) (h : Blk w g 46 s.cells) (ok : s.ok) : Calls Try.prog 17 #[.pointer (some ⟨g, 0, none⟩), .int .i64 0] w fun e w' => e = .returned (.int .i64 s.left) ∧ w = w' :=
  (rcredit_old g s 0 w h ok.now0.1).mono fun _ _ ⟨he, hw⟩ => ⟨by rw [he]; unfold Acc.creditOf; rw [if_pos ok.now0.1], hw⟩
set_option maxRecDepth 100000 in
set_option maxHeartbeats 4000000 in
theorem policePlays_yes (r : Rul) (a : Option Addr) (len cap : Nat) (L : Nat → Int × Int) (w : World) (hr : r.ok) (hs : Sl w a len 2 isOp L) :
    Calls Try.prog 5 #[.agg #[.int .i64 r.smax, .int .i64 r.bag, .int .i64 r.jit, .bool r.fr], .slice a len cap] w fun e w' => e = .returned (.bool true) ∧ Below w.heap.size w w' := by
  have HR := Aside.mk hr
  have HS := Aside.mk hs.ops
  have hm := hs.1
  unfold maxLen at hm
  clear hr hs
  go_enter Try.func5, Try.ntmps5
  go_wp2_with fail
  have hba : Below w.heap.size w (w.alloc (.cells r.cells 23)) := (Below.refl _ _).alloc (Nat.le_refl _) _
  have hb : Blk (w.alloc (.cells r.cells 23)) w.heap.size 23 r.cells := Blk.new _ _ _
  change Calls _ _ _ (w.alloc (.cells r.cells 23)) _
  generalize w.alloc (.cells r.cells 23) = wa at hba hb ⊢
  have HA := Aside.mk hba
  have HC := Aside.mk hb
  clear hba hb
  refine (new_yes r _ HR.out).mono ?_
  rintro e w1 ⟨g, rfl, hg, hb, hu⟩
  have H0 := Aside.mk (And.intro hb hu)
  have HG := Aside.mk hg
  have k0 : w1.cell? ⟨w.heap.size, 0, none⟩ = some (.int .i64 r.smax) := (HC.out.below hu).cell 0
  have k1 : w1.cell? ⟨w.heap.size, 1, none⟩ = some (.int .i64 r.bag) := (HC.out.below hu).cell 1
  have k2 : w1.cell? ⟨w.heap.size, 2, none⟩ = some (.int .i64 r.jit) := (HC.out.below hu).cell 2
  have k3 : w1.cell? ⟨w.heap.size, 3, none⟩ = some (.bool r.fr) := (HC.out.below hu).cell 3
  clear hb hu hg
  go_wp2_with fail
  refine (plain_calls r _).mono ?_
  rintro e w2 ⟨rfl, hu⟩
  have H1 := Aside.mk (And.intro (H0.out.1.below hu) (below_then H0.out.2 H0.out.2.size hu))
  clear hu k0 k1 k2 k3
  go_wp2_with fail
  refine (rnew_yes r _ HR.out).mono ?_
  rintro e w3 ⟨g2, rfl, hg2, hb, hu⟩
  have HT : Aside (Two wa g g2 w3 (Acc.new r) ∧ Fits (Acc.new r) 0) := ⟨⟨H1.out.1.below hu, hb, below_then H1.out.2 H1.out.2.size hu⟩, ⟨Acc.new_ok HR.out, by simp [Acc.new], by simp [Acc.new]⟩⟩
  have HG2 : Aside (wa.heap.size ≤ g2) := ⟨Nat.le_trans H1.out.2.size hg2⟩
  clear hb hu hg2 H0 H1
  go_wp2_with fail
  go_loopw [9] (fun i wr => ∃ (k : Nat) (s : Acc), k ≤ len ∧ k ≤ 300 ∧ i = .int .i64 k ∧ Aside (Two wa g g2 wr s ∧ Fits s k)) (fun i _ => len - (intOf i).toNat)
  case atStart => exact ⟨0, _, by omega, by omega, rfl, HT⟩
  case round =>
    clear HT
    obtain ⟨k, s, hk, hk100, rfl, HT⟩ := hrel
    by_cases hlt : k < len
    · by_cases hlt2 : k < 300
      · obtain ⟨b, off, ha, hcell0, hcell1, hL0, hL1⟩ := HS.out k hlt
        subst ha
        have hc0 := below_cell HT.out.1.below (below_cell HA.out hcell0)
        have hc1 := below_cell HT.out.1.below (below_cell HA.out hcell1)
        clear hcell0 hcell1
        generalize (L k).1 = now at *
        generalize (L k).2 = bytes at *
        have FK := Aside.mk HT.out.2
        go_wp2_with fail
        have H0 : Aside (Both wa g g2 wr.heap.size now bytes (wr.alloc (.cells #[.int .i64 now, .int .i64 bytes] 35)) s s) := ⟨⟨HT.out.1.blk.alloc _, HT.out.1.rblk.alloc _, Blk.new _ _ _, HT.out.1.below.alloc HT.out.1.below.size _⟩⟩
        generalize wr.alloc (.cells #[.int .i64 now, .int .i64 bytes] 35) = wb at H0 ⊢
        clear hc0 hc1
        have y0 := fun x : Cls wb => x.cell (show wb.cell? ⟨wr.heap.size, 0, none⟩ = some (.int .i64 now) from H0.out.box.cell 0)
        by_cases hneg : 0 ≤ now
        · have d1 : decide (0 ≤ now) = true := decide_eq_true hneg
          refine region_cls (by kernel_rfl) (by kernel_rfl) ?_
          repeat (go_big_quiet_step ((first
            | (go_at_call 15; exact Cls.calls _ (credit_calls g s _ _ (H0.out.blk.below (Cls.below _)) FK.out.ok hL0.2))
            | (go_at_call 17; exact Cls.calls _ (rcredit_calls g2 s _ _ (H0.out.rblk.below (Cls.below _)) FK.out.ok hL0.2)))))
          refine wpQuiet_nil ?_
          intro _ hw'
          obtain ⟨x, hw''⟩ := hw'
          subst hw''
          have H1 := Aside.mk (H0.out.then x.below)
          clear y0 d1 hneg
          generalize x.at_ = wc at H1 ⊢
          go_wp2_with fail
          have b0 : wc.cell? ⟨wr.heap.size, 0, none⟩ = some (.int .i64 now) := H1.out.box.cell 0
          have b1 : wc.cell? ⟨wr.heap.size, 1, none⟩ = some (.int .i64 bytes) := H1.out.box.cell 1
          go_region_held3 (fun w' => w'.cell? ⟨wr.heap.size, 0, none⟩ = some (.int .i64 now) ∧ w'.cell? ⟨wr.heap.size, 1, none⟩ = some (.int .i64 bytes))
            (first
              | go_keep
              | exact ⟨HF.out.box.cell 0, HF.out.box.cell 1⟩
              | exact ⟨HX.out.box.cell 0, HX.out.box.cell 1⟩
              | exact ⟨HY.out.box.cell 0, HY.out.box.cell 1⟩)
            (first
              | (go_at_call 14; refine (take_calls _ s _ _ _ ?_ FK.out.ok (by have := FK.out.passed; omega) (by have := FK.out.dropped; omega)).mono ?_; exact H1.out.blk; rintro e w2 ⟨rfl, hb, hu⟩; have HX := Aside.mk (H1.out.drew.take HG.out hb hu); clear hb hu)
              | (go_at_call 14; refine (take_calls _ s _ _ _ ?_ FK.out.ok (by have := FK.out.passed; omega) (by have := FK.out.dropped; omega)).mono ?_; exact HY.out.blk; rintro e w2 ⟨rfl, hb, hu⟩; have HF := Aside.mk (HY.out.take HG.out hb hu); clear hb hu)
              | (go_at_call 18; refine (rtake_calls _ s _ _ _ ?_ FK.out.ok (by have := FK.out.passed; omega) (by have := FK.out.dropped; omega)).mono ?_; exact H1.out.rblk; rintro e w2 ⟨rfl, hb, hu⟩; have HY := Aside.mk (H1.out.drew.rtake HG2.out hb hu); clear hb hu)
              | (go_at_call 18; refine (rtake_calls _ s _ _ _ ?_ FK.out.ok (by have := FK.out.passed; omega) (by have := FK.out.dropped; omega)).mono ?_; exact HX.out.rblk; rintro e w2 ⟨rfl, hb, hu⟩; have HF := Aside.mk (HX.out.rtake HG2.out hb hu); clear hb hu))
          all_goals
            have FN : Aside (Fits (s.take now bytes) (k + 1)) := ⟨⟨Acc.take_ok FK.out.ok now bytes, by have := (s.take_cnt now bytes).1; have := FK.out.passed; omega, by have := (s.take_cnt now bytes).2.1; have := FK.out.dropped; omega⟩⟩
            clear b0 b1
            go_wp2_with fail
            refine (passed_calls _ _ _ HF.out.blk).mono ?_
            rintro e wd ⟨rfl, nq, rfl⟩
            have HN := Aside.mk (HF.out.drewN nq)
            generalize World.drewN _ nq = we at HN ⊢
            have q6 : we.cell? ⟨g2, 6, none⟩ = some (.int .i64 (s.take now bytes).passed) := HN.out.rblk.cell 6
            have q7 : we.cell? ⟨g2, 7, none⟩ = some (.int .i64 (s.take now bytes).dropped) := HN.out.rblk.cell 7
            go_wp2_with (first
              | (go_at_call 15; refine (credit_zero _ _ _ HN.out.blk FN.out.ok).mono ?_; rintro e w' ⟨rfl, rfl⟩)
              | (go_at_call 17; refine (rcredit_zero _ _ _ HN.out.rblk FN.out.ok).mono ?_; rintro e w' ⟨rfl, rfl⟩))
            go_roundw
            case rel => exact ⟨k + 1, _, by omega, by omega, by go_num, ⟨HN.out.blk, HN.out.rblk, HN.out.below⟩, FN.out⟩
            case measure => simp [intOf]; omega
        · have d1 : decide (0 ≤ now) = false := decide_eq_false hneg
          refine region_cls (by kernel_rfl) (by kernel_rfl) ?_
          repeat (go_big_quiet_step (fail))
          refine wpQuiet_nil ?_
          intro _ hw'
          obtain ⟨x, hw''⟩ := hw'
          subst hw''
          have H1 := Aside.mk (H0.out.then x.below)
          clear y0 d1 hneg
          generalize x.at_ = wc at H1 ⊢
          go_wp2_with fail
          have b0 : wc.cell? ⟨wr.heap.size, 0, none⟩ = some (.int .i64 now) := H1.out.box.cell 0
          have b1 : wc.cell? ⟨wr.heap.size, 1, none⟩ = some (.int .i64 bytes) := H1.out.box.cell 1
          go_region_held3 (fun w' => w'.cell? ⟨wr.heap.size, 0, none⟩ = some (.int .i64 now) ∧ w'.cell? ⟨wr.heap.size, 1, none⟩ = some (.int .i64 bytes))
            (first
              | go_keep
              | exact ⟨HF.out.box.cell 0, HF.out.box.cell 1⟩
              | exact ⟨HX.out.box.cell 0, HX.out.box.cell 1⟩
              | exact ⟨HY.out.box.cell 0, HY.out.box.cell 1⟩)
            (first
              | (go_at_call 14; refine (take_calls _ s _ _ _ ?_ FK.out.ok (by have := FK.out.passed; omega) (by have := FK.out.dropped; omega)).mono ?_; exact H1.out.blk; rintro e w2 ⟨rfl, hb, hu⟩; have HX := Aside.mk (H1.out.drew.take HG.out hb hu); clear hb hu)
              | (go_at_call 14; refine (take_calls _ s _ _ _ ?_ FK.out.ok (by have := FK.out.passed; omega) (by have := FK.out.dropped; omega)).mono ?_; exact HY.out.blk; rintro e w2 ⟨rfl, hb, hu⟩; have HF := Aside.mk (HY.out.take HG.out hb hu); clear hb hu)
              | (go_at_call 18; refine (rtake_calls _ s _ _ _ ?_ FK.out.ok (by have := FK.out.passed; omega) (by have := FK.out.dropped; omega)).mono ?_; exact H1.out.rblk; rintro e w2 ⟨rfl, hb, hu⟩; have HY := Aside.mk (H1.out.drew.rtake HG2.out hb hu); clear hb hu)
              | (go_at_call 18; refine (rtake_calls _ s _ _ _ ?_ FK.out.ok (by have := FK.out.passed; omega) (by have := FK.out.dropped; omega)).mono ?_; exact HX.out.rblk; rintro e w2 ⟨rfl, hb, hu⟩; have HF := Aside.mk (HX.out.rtake HG2.out hb hu); clear hb hu))
          all_goals
            have FN : Aside (Fits (s.take now bytes) (k + 1)) := ⟨⟨Acc.take_ok FK.out.ok now bytes, by have := (s.take_cnt now bytes).1; have := FK.out.passed; omega, by have := (s.take_cnt now bytes).2.1; have := FK.out.dropped; omega⟩⟩
            clear b0 b1
            go_wp2_with fail
            refine (passed_calls _ _ _ HF.out.blk).mono ?_
            rintro e wd ⟨rfl, nq, rfl⟩
            have HN := Aside.mk (HF.out.drewN nq)
            generalize World.drewN _ nq = we at HN ⊢
            have q6 : we.cell? ⟨g2, 6, none⟩ = some (.int .i64 (s.take now bytes).passed) := HN.out.rblk.cell 6
            have q7 : we.cell? ⟨g2, 7, none⟩ = some (.int .i64 (s.take now bytes).dropped) := HN.out.rblk.cell 7
            go_wp2_with (first
              | (go_at_call 15; refine (credit_zero _ _ _ HN.out.blk FN.out.ok).mono ?_; rintro e w' ⟨rfl, rfl⟩)
              | (go_at_call 17; refine (rcredit_zero _ _ _ HN.out.rblk FN.out.ok).mono ?_; rintro e w' ⟨rfl, rfl⟩))
            go_roundw
            case rel => exact ⟨k + 1, _, by omega, by omega, by go_num, ⟨HN.out.blk, HN.out.rblk, HN.out.below⟩, FN.out⟩
            case measure => simp [intOf]; omega
      · go_wp2_with fail
        refine (awake_calls _).mono ?_
        rintro e w6 ⟨rfl, hu⟩
        have U6 := Aside.mk hu
        clear hu
        go_wp2
        go_ret
        exact ⟨rfl, below_then (below_then HA.out HA.out.size HT.out.1.below) (Nat.le_trans HA.out.size HT.out.1.below.size) U6.out⟩
    · go_wp2_with fail
      refine (awake_calls _).mono ?_
      rintro e w6 ⟨rfl, hu⟩
      have U6 := Aside.mk hu
      clear hu
      go_wp2
      go_ret
      exact ⟨rfl, below_then (below_then HA.out HA.out.size HT.out.1.below) (Nat.le_trans HA.out.size HT.out.1.below.size) U6.out⟩
set_option maxRecDepth 100000 in
set_option maxHeartbeats 1000000 in
theorem policePlays_no (r : Rul) (a : Option Addr) (len cap : Nat) (w : World) (hr : r.mayB = false) :
    Calls Try.prog 5 #[.agg #[.int .i64 r.smax, .int .i64 r.bag, .int .i64 r.jit, .bool r.fr], .slice a len cap] w fun e w' => e = .returned (.bool true) ∧ Below w.heap.size w w' := by
  have HR := Aside.mk hr
  clear hr
  go_enter Try.func5, Try.ntmps5
  go_wp2_with fail
  have hba : Below w.heap.size w (w.alloc (.cells r.cells 23)) := (Below.refl _ _).alloc (Nat.le_refl _) _
  have hb : Blk (w.alloc (.cells r.cells 23)) w.heap.size 23 r.cells := Blk.new _ _ _
  change Calls _ _ _ (w.alloc (.cells r.cells 23)) _
  generalize w.alloc (.cells r.cells 23) = wa at hba hb ⊢
  have HA := Aside.mk hba
  have HC := Aside.mk hb
  clear hba hb
  refine (new_no r _ HR.out).mono ?_
  rintro e w1 ⟨rfl, hu⟩
  have H0 := Aside.mk hu
  have k0 : w1.cell? ⟨w.heap.size, 0, none⟩ = some (.int .i64 r.smax) := (HC.out.below hu).cell 0
  have k1 : w1.cell? ⟨w.heap.size, 1, none⟩ = some (.int .i64 r.bag) := (HC.out.below hu).cell 1
  have k2 : w1.cell? ⟨w.heap.size, 2, none⟩ = some (.int .i64 r.jit) := (HC.out.below hu).cell 2
  have k3 : w1.cell? ⟨w.heap.size, 3, none⟩ = some (.bool r.fr) := (HC.out.below hu).cell 3
  clear hu
  go_wp2_with fail
  refine (plain_calls r _).mono ?_
  rintro e w2 ⟨rfl, hu⟩
  have H1 := Aside.mk (below_then H0.out H0.out.size hu)
  clear hu k0 k1 k2 k3
  go_wp2_with fail
  refine (rnew_no r _ HR.out).mono ?_
  rintro e w3 ⟨rfl, hu⟩
  have H2 := Aside.mk (below_then H1.out H1.out.size hu)
  clear hu
  go_wp2_with (go_at_call 11; refine (awake_calls _).mono ?_; rintro e w' ⟨rfl, hb⟩)
  go_ret
  exact ⟨rfl, below_then (below_then HA.out HA.out.size H2.out) (Nat.le_trans HA.out.size H2.out.size) (by assumption)⟩
theorem policePlays_walk (r : Rul) (a : Option Addr) (len cap : Nat) (L : Nat → Int × Int) (w : World) (_ : (-9223372036854775808 ≤ r.smax ∧ r.smax ≤ 9223372036854775807) ∧ (-9223372036854775808 ≤ r.bag ∧ r.bag ≤ 9223372036854775807) ∧ (-9223372036854775808 ≤ r.jit ∧ r.jit ≤ 9223372036854775807)) (hs : Sl w a len 2 isOp L) :
    Calls Try.prog 5 #[.agg #[.int .i64 r.smax, .int .i64 r.bag, .int .i64 r.jit, .bool r.fr], .slice a len cap] w fun e w' => e = .returned (.bool true) ∧ Below w.heap.size w w' := by
  cases hr : r.mayB with
  | false => exact policePlays_no r a len cap w hr
  | true => exact policePlays_yes r a len cap L w (Rul.ok_of hr) hs
end Go.Proofs.Ytkckfghmdkeobaa
