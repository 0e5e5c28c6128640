/- What the reference's full, New and Credit answer and leave. Conditions: the account lies in a block of its own. -/
import Derived.Test.YtkckfghmdkeobaaRefC
namespace Go.Proofs.Ytkckfghmdkeobaa
open Go.RowKit
set_option linter.unusedVariables false
attribute [local go_sem] min2_mn min_two
set_option maxHeartbeats 1000000 in
theorem full_calls (r : Rul) (w : World) (h : r.ok) : Calls Try.prog 26 #[.agg #[.int .i64 r.smax, .int .i64 r.bag, .int .i64 r.jit, .bool r.fr]] w fun e w' => e = .returned (.int .i64 r.full) ∧ Below w.heap.size w w' := by
  have HR := Aside.mk h
  have F := h.full_le
  obtain ⟨p0, p1⟩ := h.per_le
  have j0 := h.j0
  have j1 := h.j1
  have hw1 : IntKind.i64.wrap (r.per + r.jit) = r.per + r.jit := IntWalk.i64_in _ (by omega)
  have hw2 : IntKind.i64.wrap (r.smax * (r.per + r.jit)) = r.smax * (r.per + r.jit) := IntWalk.i64_in _ (by unfold Rul.full at F; omega)
  clear h F
  go_enter Try.func26, Try.ntmps26
  go_wp2_with fail
  have hba : Below w.heap.size w (w.alloc (.cells r.cells 32)) := (Below.refl _ _).alloc (Nat.le_refl _) _
  have hb : Blk (w.alloc (.cells r.cells 32)) w.heap.size 32 r.cells := Blk.new _ _ _
  change Code.wp _ _ _ _ (w.alloc (.cells r.cells 32))
  generalize w.alloc (.cells r.cells 32) = wa at hba hb ⊢
  have HA := Aside.mk hba
  have y0 := fun x : Cls wa => x.cell (show wa.cell? ⟨w.heap.size, 0, none⟩ = some (.int .i64 r.smax) from hb.cell 0)
  have y1 := fun x : Cls wa => x.cell (show wa.cell? ⟨w.heap.size, 1, none⟩ = some (.int .i64 r.bag) from hb.cell 1)
  have y2 := fun x : Cls wa => x.cell (show wa.cell? ⟨w.heap.size, 2, none⟩ = some (.int .i64 r.jit) from hb.cell 2)
  have y3 := fun x : Cls wa => x.cell (show wa.cell? ⟨w.heap.size, 3, none⟩ = some (.bool r.fr) from hb.cell 3)
  clear hba hb
  refine region_cls (by kernel_rfl) (by kernel_rfl) ?_
  repeat (go_big_quiet_step ((go_at_call 12; exact Cls.calls _ (refperiod_calls r _ HR.out))))
  refine wpQuiet_nil ?_
  intro _ hw'
  obtain ⟨x, hw''⟩ := hw'
  subst hw''
  have hu := x.below
  go_wp2
  go_ret
  exact ⟨rfl, below_then HA.out HA.out.size hu⟩
set_option maxHeartbeats 400000 in
theorem rnew_no (r : Rul) (w : World) (h : r.mayB = false) : Calls Try.prog 16 #[.agg #[.int .i64 r.smax, .int .i64 r.bag, .int .i64 r.jit, .bool r.fr]] w fun e w' => e = .returned (.tuple #[.pointer none, .int .i64 1]) ∧ Below w.heap.size w w' := by
  have H := Aside.mk h
  clear h
  go_enter Try.func16, Try.ntmps16
  go_wp2_with fail
  have hba : Below w.heap.size w (w.alloc (.cells r.cells 32)) := (Below.refl _ _).alloc (Nat.le_refl _) _
  change Calls _ _ _ (w.alloc (.cells r.cells 32)) _
  generalize w.alloc (.cells r.cells 32) = wa at hba ⊢
  have HBA := Aside.mk hba
  clear hba
  refine (refmay_calls r _).mono ?_
  rintro e w1 ⟨rfl, hu⟩
  rw [H.out]
  have HU := Aside.mk hu
  clear hu
  go_wp2
  go_ret2
  exact ⟨rfl, below_then HBA.out HBA.out.size HU.out⟩
set_option maxRecDepth 100000 in
set_option maxHeartbeats 1000000 in
theorem rnew_yes (r : Rul) (w : World) (h : r.ok) : Calls Try.prog 16 #[.agg #[.int .i64 r.smax, .int .i64 r.bag, .int .i64 r.jit, .bool r.fr]] w fun e w' => ∃ g, e = .returned (.tuple #[.pointer (some ⟨g, 0, none⟩), .int .i64 0]) ∧ w.heap.size ≤ g ∧ Blk w' g 46 (Acc.new r).cells ∧ Below w.heap.size w w' := by
  have H := Aside.mk h.mayB
  have HO := Aside.mk h
  clear h
  go_enter Try.func16, Try.ntmps16
  go_wp2_with fail
  have hba : Below w.heap.size w (w.alloc (.cells r.cells 32)) := (Below.refl _ _).alloc (Nat.le_refl _) _
  have hb : Blk (w.alloc (.cells r.cells 32)) w.heap.size 32 r.cells := Blk.new _ _ _
  change Calls _ _ _ (w.alloc (.cells r.cells 32)) _
  generalize w.alloc (.cells r.cells 32) = wa at hba hb ⊢
  have HBA := Aside.mk hba
  have HB := Aside.mk hb
  clear hba hb
  refine (refmay_calls r _).mono ?_
  rintro e w1 ⟨rfl, hu⟩
  rw [H.out]
  have HU := Aside.mk hu
  have c0 : w1.cell? ⟨w.heap.size, 0, none⟩ = some (.int .i64 r.smax) := below_cell hu (HB.out.cell 0)
  have c1 : w1.cell? ⟨w.heap.size, 1, none⟩ = some (.int .i64 r.bag) := below_cell hu (HB.out.cell 1)
  have c2 : w1.cell? ⟨w.heap.size, 2, none⟩ = some (.int .i64 r.jit) := below_cell hu (HB.out.cell 2)
  have c3 : w1.cell? ⟨w.heap.size, 3, none⟩ = some (.bool r.fr) := below_cell hu (HB.out.cell 3)
  clear hu
  go_wp2_with fail
  go_region_held3 (fun w' => w'.cell? ⟨w.heap.size, 0, none⟩ = some (.int .i64 r.smax) ∧ w'.cell? ⟨w.heap.size, 1, none⟩ = some (.int .i64 r.bag) ∧ w'.cell? ⟨w.heap.size, 2, none⟩ = some (.int .i64 r.jit) ∧ w'.cell? ⟨w.heap.size, 3, none⟩ = some (.bool r.fr))
    (first
      | go_keep
      | (go_split_ands
         refine ⟨?_, ?_, ?_, ?_⟩ <;> exact below_cell hv (by assumption)))
    (first | (go_at_call 26; refine (full_calls r _ HO.out).mono ?_; rintro e w2 ⟨rfl, hv⟩))
  all_goals
    go_wp2
    go_ret2
    have hz : w.heap.size ≤ w2.heap.size := Nat.le_trans HBA.out.size (Nat.le_trans HU.out.size hv.size)
    refine ⟨_, rfl, hz, Blk.new _ _ _, ?_⟩
    exact (below_then (below_then HBA.out HBA.out.size HU.out) (Nat.le_trans HBA.out.size HU.out.size) (chain1 hv)).alloc hz _
theorem racc_cells {w : World} {g : Nat} {s : Acc} (h : Blk w g 46 s.cells) : w.cell? ⟨g, 0, none⟩ = some (.int .i64 s.r.smax) ∧ w.cell? ⟨g, 1, none⟩ = some (.int .i64 s.r.bag) ∧ w.cell? ⟨g, 2, none⟩ = some (.int .i64 s.r.jit) ∧ w.cell? ⟨g, 3, none⟩ = some (.bool s.r.fr) ∧ w.cell? ⟨g, 4, none⟩ = some (.int .i64 s.now) ∧ w.cell? ⟨g, 5, none⟩ = some (.int .i64 s.left) ∧ w.cell? ⟨g, 6, none⟩ = some (.int .i64 s.passed) ∧ w.cell? ⟨g, 7, none⟩ = some (.int .i64 s.dropped) :=
  ⟨h.cell 0, h.cell 1, h.cell 2, h.cell 3, h.cell 4, h.cell 5, h.cell 6, h.cell 7⟩
set_option maxHeartbeats 400000 in
theorem rcredit_old (g : Nat) (s : Acc) (now : Int) (w : World) (h : Blk w g 46 s.cells) (hn : now ≤ s.now) : Calls Try.prog 17 #[.pointer (some ⟨g, 0, none⟩), .int .i64 now] w fun e w' => e = .returned (.int .i64 (s.creditOf now)) ∧ w = w' := by
  obtain ⟨h0, h1, h2, h3, h4, h5, h6, h7⟩ := racc_cells h
  have E : Aside (s.creditOf now = s.left) := ⟨if_pos hn⟩
  clear h
  go_enter Try.func17, Try.ntmps17
  go_wp2
  go_ret
  exact ⟨by rw [E.out]; rfl, rfl⟩
set_option maxRecDepth 100000 in
set_option maxHeartbeats 2000000 in
theorem rcredit_new (g : Nat) (s : Acc) (now : Int) (w : World) (h : Blk w g 46 s.cells) (ok : s.ok) (hn : s.now < now) (hm : now ≤ 9223372036854775807) : Calls Try.prog 17 #[.pointer (some ⟨g, 0, none⟩), .int .i64 now] w fun e w' => e = .returned (.int .i64 (s.creditOf now)) ∧ Below w.heap.size w w' := by
  obtain ⟨h0, h1, h2, h3, h4, h5, h6, h7⟩ := racc_cells h
  have H := Aside.mk ok.r
  have HB := Aside.mk h
  have n0 := ok.now0.1
  have n1 := ok.now0.2
  obtain ⟨p0, p1⟩ := ok.r.per_le
  have j0 := ok.r.j0
  have j1 := ok.r.j1
  have L := ok.left0
  have F := ok.r.full_le
  have hw1 : IntKind.i64.wrap (s.r.per + s.r.jit) = s.r.per + s.r.jit := IntWalk.i64_in _ (by omega)
  have y0 := fun x : Cls w => x.cell h0
  have y1 := fun x : Cls w => x.cell h1
  have y2 := fun x : Cls w => x.cell h2
  have y3 := fun x : Cls w => x.cell h3
  have y4 := fun x : Cls w => x.cell h4
  have y5 := fun x : Cls w => x.cell h5
  clear h h6 h7
  by_cases c1 : s.r.per + s.r.jit < now - s.now
  · have E : Aside (s.creditOf now = s.r.full) := ⟨by unfold Acc.creditOf; rw [if_neg (by omega), if_pos c1]⟩
    have d1 : decide (s.r.per + s.r.jit < now - s.now) = true := decide_eq_true c1
    clear L F
    go_enter Try.func17, Try.ntmps17
    go_wp2_with fail
    refine region_cls (by kernel_rfl) (by kernel_rfl) ?_
    repeat (go_big_quiet_step ((go_at_call 12; exact Cls.calls _ (refperiod_calls s.r _ H.out))))
    refine wpQuiet_nil ?_
    intro _ hw'
    obtain ⟨x, hw''⟩ := hw'
    subst hw''
    have HU := Aside.mk x.below
    go_wp2_with fail
    refine (full_calls s.r _ H.out).mono ?_
    rintro e w2 ⟨rfl, hu⟩
    have HU2 := Aside.mk hu
    clear hu
    go_wp2
    go_ret
    exact ⟨by rw [E.out]; rfl, below_then HU.out HU.out.size HU2.out⟩
  · have d1 : decide (s.r.per + s.r.jit < now - s.now) = false := decide_eq_false c1
    have mb := mul_bound (A := 1518) (B := 1075341824) (a := s.r.smax) (b := now - s.now) (by have := ok.r.s0; omega) ok.r.s1 (by omega) (by omega)
    have hw2 : IntKind.i64.wrap (s.r.smax * (now - s.now)) = s.r.smax * (now - s.now) := IntWalk.i64_in _ (by omega)
    have hw3 : IntKind.i64.wrap (s.left + s.r.smax * (now - s.now)) = s.left + s.r.smax * (now - s.now) := IntWalk.i64_in _ (by omega)
    have E : Aside (mn (s.left + s.r.smax * (now - s.now)) s.r.full = s.creditOf now) := ⟨by
      unfold Acc.creditOf mn
      rw [if_neg (show ¬ now ≤ s.now by omega), if_neg c1]
      by_cases hx : s.r.full < s.left + s.r.smax * (now - s.now)
      · rw [if_pos hx, if_neg (by omega)]
      · rw [if_neg hx, if_pos (by omega)]⟩
    clear L F mb
    go_enter Try.func17, Try.ntmps17
    go_wp2_with fail
    refine region_cls (by kernel_rfl) (by kernel_rfl) ?_
    repeat (go_big_quiet_step ((go_at_call 12; exact Cls.calls _ (refperiod_calls s.r _ H.out))))
    refine wpQuiet_nil ?_
    intro _ hw'
    obtain ⟨x, hw''⟩ := hw'
    subst hw''
    have HU := Aside.mk x.below
    have HBX := Aside.mk (HB.out.below x.below)
    generalize x.at_ = wb at HU HBX ⊢
    obtain ⟨g0, g1, g2, g3, g4, g5, _, _⟩ := racc_cells HBX.out
    have z0 := fun x : Cls wb => x.cell g0
    have z1 := fun x : Cls wb => x.cell g1
    have z2 := fun x : Cls wb => x.cell g2
    have z3 := fun x : Cls wb => x.cell g3
    have z4 := fun x : Cls wb => x.cell g4
    have z5 := fun x : Cls wb => x.cell g5
    clear y0 y1 y2 y3 y4 y5
    go_wp2_with fail
    refine region_cls (by kernel_rfl) (by kernel_rfl) ?_
    repeat (go_big_quiet_step ((go_at_call 26; exact Cls.calls _ (full_calls s.r _ H.out))))
    refine wpQuiet_nil ?_
    intro _ hw'
    obtain ⟨x, hw''⟩ := hw'
    subst hw''
    have HU2 := Aside.mk x.below
    go_wp2
    go_ret
    exact ⟨by rw [← E.out]; rfl, below_then HU.out HU.out.size HU2.out⟩
theorem rcredit_calls (g : Nat) (s : Acc) (now : Int) (w : World) (h : Blk w g 46 s.cells) (ok : s.ok) (hm : now ≤ 9223372036854775807) : Calls Try.prog 17 #[.pointer (some ⟨g, 0, none⟩), .int .i64 now] w fun e w' => e = .returned (.int .i64 (s.creditOf now)) ∧ Below w.heap.size w w' := by
  by_cases hn : now ≤ s.now
  · exact (rcredit_old g s now w h hn).mono fun e w' ⟨he, hw⟩ => ⟨he, by subst hw; exact Below.refl _ _⟩
  · exact rcredit_new g s now w h ok (by omega) hm
set_option maxRecDepth 100000 in
set_option maxHeartbeats 1000000 in
theorem rtake_bad (g : Nat) (now n : Int) (w : World) (h : Acc.bad now n) : Calls Try.prog 18 #[.pointer (some ⟨g, 0, none⟩), .int .i64 now, .int .i64 n] w fun e w' => e = .returned (.int .i64 1) ∧ w = w' := by
  have key : now < 0 ∨ (¬ now < 0 ∧ 1125899906842624 < now) ∨ (¬ now < 0 ∧ ¬ 1125899906842624 < now ∧ n < 0) := by unfold Acc.bad at h; omega
  clear h
  rcases key with h | ⟨h1, h⟩ | ⟨h1, h2, h⟩
  all_goals
    go_enter Try.func18, Try.ntmps18
    go_wp2
    go_ret
    exact ⟨rfl, rfl⟩
set_option maxRecDepth 100000 in
set_option maxHeartbeats 1000000 in
theorem rtake_time (g : Nat) (s : Acc) (now n : Int) (w : World) (h : Blk w g 46 s.cells) (hb : ¬ Acc.bad now n) (ht : now < s.now) : Calls Try.prog 18 #[.pointer (some ⟨g, 0, none⟩), .int .i64 now, .int .i64 n] w fun e w' => e = .returned (.int .i64 24) ∧ w = w' := by
  obtain ⟨h0, h1, h2, h3, h4, h5, h6, h7⟩ := racc_cells h
  unfold Acc.bad at hb
  have a0 : 0 ≤ now := by omega
  have a1 : now ≤ 1125899906842624 := by omega
  have a2 : 0 ≤ n := by omega
  clear h hb h0 h1 h2 h3 h5 h6 h7
  go_enter Try.func18, Try.ntmps18
  go_wp2
  go_ret
  exact ⟨rfl, rfl⟩
set_option maxRecDepth 100000 in
set_option maxHeartbeats 4000000 in
theorem rtake_goes (g : Nat) (s : Acc) (now n : Int) (w : World) (h : Blk w g 46 s.cells) (ok : s.ok) (hb : ¬ Acc.bad now n) (ht : ¬ now < s.now) (hp : s.passed ≤ 1125899906842624) (hd : s.dropped ≤ 1125899906842624) : Calls Try.prog 18 #[.pointer (some ⟨g, 0, none⟩), .int .i64 now, .int .i64 n] w fun e w' => e = .returned (.int .i64 (s.err now n)) ∧ Blk w' g 46 (s.take now n).cells ∧ Upon (· = g) w w' := by
  obtain ⟨h0, h1, h2, h3, h4, h5, h6, h7⟩ := racc_cells h
  have HB := Aside.mk h
  have OK := Aside.mk ok
  have HBAD := Aside.mk hb
  unfold Acc.bad at hb
  have a0 : 0 ≤ now := by omega
  have a1 : now ≤ 1125899906842624 := by omega
  have a2 : 0 ≤ n := by omega
  have cp := ok.cnt.1
  have cd := ok.cnt.2
  have HT := Aside.mk ht
  clear h hb
  go_enter Try.func18, Try.ntmps18
  go_wp2_with fail
  refine (rcredit_calls _ s _ _ HB.out OK.out (by omega)).mono ?_
  rintro e w1 ⟨rfl, hu⟩
  have hb1 := HB.out.below hu
  have f4 := hb1.frozen 4
  have f5 := hb1.frozen 5
  have HU1 := Aside.mk (Upon.of_below (S := (· = g)) hu)
  have g0 : w1.cell? ⟨g, 0, none⟩ = some (.int .i64 s.r.smax) := hb1.cell 0
  have g1 : w1.cell? ⟨g, 1, none⟩ = some (.int .i64 s.r.bag) := hb1.cell 1
  have g2 : w1.cell? ⟨g, 2, none⟩ = some (.int .i64 s.r.jit) := hb1.cell 2
  have g3 : w1.cell? ⟨g, 3, none⟩ = some (.bool s.r.fr) := hb1.cell 3
  have g4 : w1.cell? ⟨g, 4, none⟩ = some (.int .i64 s.now) := hb1.cell 4
  have g5 : w1.cell? ⟨g, 5, none⟩ = some (.int .i64 s.left) := hb1.cell 5
  have HB1 := Aside.mk hb1
  clear hb1 hu h0 h1 h2 h3 h4 h5 h6 h7
  by_cases hl : s.r.smax < n
  · have E1 : Aside (s.err now n = 11) := ⟨by unfold Acc.err; rw [if_neg HBAD.out, if_neg (show ¬ now < s.now by have := HT.out; omega), if_pos hl]⟩
    have E2 : Aside (s.take now n = { s.to now with dropped := s.dropped + 1 }) := ⟨by unfold Acc.take; rw [if_neg HBAD.out, if_neg (show ¬ now < s.now by have := HT.out; omega), if_pos hl]⟩
    have g7 : w1.cell? ⟨g, 7, none⟩ = some (.int .i64 s.dropped) := HB1.out.cell 7
    have f7 := HB1.out.frozen 7
    go_wp2_with fail
    go_ret
    refine ⟨by rw [E1.out]; rfl, ?_, ((HU1.out.setg rfl _ _).setg rfl _ _).setg rfl _ _⟩
    rw [E2.out]
    have hb := ((HB1.out.set 5 (.int .i64 (s.creditOf now))).set 4 (.int .i64 now)).set 7 (.int .i64 (s.dropped + 1))
    simpa [Acc.cells, Acc.to] using hb
  · obtain ⟨p0, p1⟩ := OK.out.r.per_le
    have s1 := OK.out.r.s1
    have s0 := OK.out.r.s0
    have hc := OK.out.cost_le a2 (by omega)
    obtain ⟨hc0, hc1⟩ := hc
    have mb := mul_bound (A := 1518) (B := 1600000) (a := n) (b := s.r.per) a2 (by omega) (by omega) p1
    have mb2 := mul_bound (A := 1518) (B := 1600000) (a := s.r.smax) (b := s.r.per) (by omega) s1 (by omega) p1
    obtain ⟨mb0, mb1⟩ := mb
    obtain ⟨mb2, mb3⟩ := mb2
    have hr := credit_range OK.out now
    have hfl := OK.out.r.full_le
    obtain ⟨hr0, hr1⟩ := hr
    obtain ⟨hfl0, hfl1⟩ := hfl
    have HLE : Aside (n ≤ s.r.smax) := ⟨by omega⟩
    have OR := Aside.mk OK.out.r
    have BT : Aside (Blk ((w1.setCell ⟨g, 5, none⟩ (.int .i64 (s.creditOf now))).setCell ⟨g, 4, none⟩ (.int .i64 now)) g 46 (s.to now).cells) := ⟨by
      have hb := (HB1.out.set 5 (.int .i64 (s.creditOf now))).set 4 (.int .i64 now)
      simpa [Acc.cells, Acc.to] using hb⟩
    have UT : Aside (Upon (· = g) w ((w1.setCell ⟨g, 5, none⟩ (.int .i64 (s.creditOf now))).setCell ⟨g, 4, none⟩ (.int .i64 now))) := ⟨(HU1.out.setg rfl _ _).setg rfl _ _⟩
    go_wp2_with fail
    clear g0 g1 g2 g3 g4 g5 f4 f5
    generalize (w1.setCell ⟨g, 5, none⟩ (.int .i64 (s.creditOf now))).setCell ⟨g, 4, none⟩ (.int .i64 now) = wb at BT UT ⊢
    refine (refperiod_calls s.r _ OR.out).mono ?_
    rintro e w2 ⟨rfl, hu⟩
    have B2 := Aside.mk (BT.out.below hu)
    have U2 := Aside.mk (UT.out.trans (Upon.of_below (S := (· = g)) hu))
    have k3 : w2.cell? ⟨g, 3, none⟩ = some (.bool s.r.fr) := B2.out.cell 3
    clear hu
    rcases Bool.eq_false_or_eq_true s.r.fr with hf | hf
    · rw [hf] at k3
      have EC : Aside (s.costOf n = s.r.smax * s.r.per) := ⟨by unfold Acc.costOf; rw [hf]; rfl⟩
      have HP := Aside.mk (refperiod_calls s.r)
      rw [hf] at HP
      have k0 : w2.cell? ⟨g, 0, none⟩ = some (.int .i64 s.r.smax) := B2.out.cell 0
      have k1 : w2.cell? ⟨g, 1, none⟩ = some (.int .i64 s.r.bag) := B2.out.cell 1
      have k2 : w2.cell? ⟨g, 2, none⟩ = some (.int .i64 s.r.jit) := B2.out.cell 2
      have hwm : IntKind.i64.wrap (s.r.smax * s.r.per) = s.r.smax * s.r.per := IntWalk.i64_in _ (by omega)
      rw [EC.out] at hc0 hc1
      clear hf
      go_wp2_with fail
      have y0 := fun x : Cls w2 => x.cell k0
      have y1 := fun x : Cls w2 => x.cell k1
      have y2 := fun x : Cls w2 => x.cell k2
      have y3 := fun x : Cls w2 => x.cell k3
      refine region_cls (by kernel_rfl) (by kernel_rfl) ?_
      repeat (go_big_quiet_step ((go_at_call 12; exact Cls.calls _ (HP.out _ OR.out))))
      refine wpQuiet_nil ?_
      intro _ hw'
      obtain ⟨x, hw''⟩ := hw'
      subst hw''
      have B3 := Aside.mk (B2.out.below x.below)
      have U3 := Aside.mk (U2.out.trans (Upon.of_below (S := (· = g)) x.below))
      clear y0 y1 y2 y3 k0 k1 k2 k3
      generalize x.at_ = w3 at B3 U3 ⊢
      by_cases hcc : s.creditOf now < s.costOf n
      · have E1 : Aside (s.err now n = 26) := ⟨by unfold Acc.err; rw [if_neg HBAD.out, if_neg (show ¬ now < s.now by have := HT.out; omega), if_neg (show ¬ s.r.smax < n by have := HLE.out; omega), if_pos hcc]⟩
        have E2 : Aside (s.take now n = { s.to now with dropped := s.dropped + 1 }) := ⟨by unfold Acc.take; rw [if_neg HBAD.out, if_neg (show ¬ now < s.now by have := HT.out; omega), if_neg (show ¬ s.r.smax < n by have := HLE.out; omega), if_pos hcc]⟩
        rw [EC.out] at hcc
        have q5 : w3.cell? ⟨g, 5, none⟩ = some (.int .i64 (s.creditOf now)) := B3.out.cell 5
        have q7 : w3.cell? ⟨g, 7, none⟩ = some (.int .i64 s.dropped) := B3.out.cell 7
        have f7 := B3.out.frozen 7
        go_wp2
        go_ret
        refine ⟨by rw [E1.out]; rfl, ?_, U3.out.setg rfl _ _⟩
        rw [E2.out]
        have hb := B3.out.set 7 (.int .i64 (s.dropped + 1))
        simpa [Acc.cells, Acc.to] using hb
      · have E1 : Aside (s.err now n = 0) := ⟨by unfold Acc.err; rw [if_neg HBAD.out, if_neg (show ¬ now < s.now by have := HT.out; omega), if_neg (show ¬ s.r.smax < n by have := HLE.out; omega), if_neg hcc]⟩
        have E2 : Aside (s.take now n = { s.to now with left := s.creditOf now - s.costOf n, passed := s.passed + 1 }) := ⟨by unfold Acc.take; rw [if_neg HBAD.out, if_neg (show ¬ now < s.now by have := HT.out; omega), if_neg (show ¬ s.r.smax < n by have := HLE.out; omega), if_neg hcc]⟩
        rw [EC.out] at hcc E2
        have q5 : w3.cell? ⟨g, 5, none⟩ = some (.int .i64 (s.creditOf now)) := B3.out.cell 5
        have q6 : w3.cell? ⟨g, 6, none⟩ = some (.int .i64 s.passed) := B3.out.cell 6
        have f5 := B3.out.frozen 5
        have f6 := B3.out.frozen 6
        go_wp2
        go_ret
        refine ⟨by rw [E1.out]; rfl, ?_, (U3.out.setg rfl _ _).setg rfl _ _⟩
        rw [E2.out]
        have hb := (B3.out.set 5 (.int .i64 (s.creditOf now - s.r.smax * s.r.per))).set 6 (.int .i64 (s.passed + 1))
        simpa [Acc.cells, Acc.to] using hb
    · rw [hf] at k3
      have EC : Aside (s.costOf n = n * s.r.per) := ⟨by unfold Acc.costOf; rw [hf]; rfl⟩
      rw [EC.out] at hc0 hc1
      clear hf
      by_cases hcc : s.creditOf now < s.costOf n
      · have E1 : Aside (s.err now n = 26) := ⟨by unfold Acc.err; rw [if_neg HBAD.out, if_neg (show ¬ now < s.now by have := HT.out; omega), if_neg (show ¬ s.r.smax < n by have := HLE.out; omega), if_pos hcc]⟩
        have E2 : Aside (s.take now n = { s.to now with dropped := s.dropped + 1 }) := ⟨by unfold Acc.take; rw [if_neg HBAD.out, if_neg (show ¬ now < s.now by have := HT.out; omega), if_neg (show ¬ s.r.smax < n by have := HLE.out; omega), if_pos hcc]⟩
        rw [EC.out] at hcc
        have q5 : w2.cell? ⟨g, 5, none⟩ = some (.int .i64 (s.creditOf now)) := B2.out.cell 5
        have q7 : w2.cell? ⟨g, 7, none⟩ = some (.int .i64 s.dropped) := B2.out.cell 7
        have f7 := B2.out.frozen 7
        go_wp2
        go_ret
        refine ⟨by rw [E1.out]; rfl, ?_, U2.out.setg rfl _ _⟩
        rw [E2.out]
        have hb := B2.out.set 7 (.int .i64 (s.dropped + 1))
        simpa [Acc.cells, Acc.to] using hb
      · have E1 : Aside (s.err now n = 0) := ⟨by unfold Acc.err; rw [if_neg HBAD.out, if_neg (show ¬ now < s.now by have := HT.out; omega), if_neg (show ¬ s.r.smax < n by have := HLE.out; omega), if_neg hcc]⟩
        have E2 : Aside (s.take now n = { s.to now with left := s.creditOf now - s.costOf n, passed := s.passed + 1 }) := ⟨by unfold Acc.take; rw [if_neg HBAD.out, if_neg (show ¬ now < s.now by have := HT.out; omega), if_neg (show ¬ s.r.smax < n by have := HLE.out; omega), if_neg hcc]⟩
        rw [EC.out] at hcc E2
        have q5 : w2.cell? ⟨g, 5, none⟩ = some (.int .i64 (s.creditOf now)) := B2.out.cell 5
        have q6 : w2.cell? ⟨g, 6, none⟩ = some (.int .i64 s.passed) := B2.out.cell 6
        have f5 := B2.out.frozen 5
        have f6 := B2.out.frozen 6
        go_wp2
        go_ret
        refine ⟨by rw [E1.out]; rfl, ?_, (U2.out.setg rfl _ _).setg rfl _ _⟩
        rw [E2.out]
        have hb := (B2.out.set 5 (.int .i64 (s.creditOf now - n * s.r.per))).set 6 (.int .i64 (s.passed + 1))
        simpa [Acc.cells, Acc.to] using hb
theorem rtake_calls (g : Nat) (s : Acc) (now n : Int) (w : World) (h : Blk w g 46 s.cells) (ok : s.ok) (hp : s.passed ≤ 1125899906842624) (hd : s.dropped ≤ 1125899906842624) : Calls Try.prog 18 #[.pointer (some ⟨g, 0, none⟩), .int .i64 now, .int .i64 n] w fun e w' => e = .returned (.int .i64 (s.err now n)) ∧ Blk w' g 46 (s.take now n).cells ∧ Upon (· = g) w w' := by
  by_cases hb : Acc.bad now n
  · have e1 : s.err now n = 1 := if_pos hb
    have e2 : s.take now n = s := if_pos hb
    rw [e1, e2]
    exact (rtake_bad g now n w hb).mono fun e w' ⟨he, hw⟩ => by subst hw; exact ⟨he, h, Upon.refl _ _⟩
  by_cases ht : now < s.now
  · have e1 : s.err now n = 24 := by unfold Acc.err; rw [if_neg hb, if_pos ht]
    have e2 : s.take now n = s := by unfold Acc.take; rw [if_neg hb, if_pos ht]
    rw [e1, e2]
    exact (rtake_time g s now n w h hb ht).mono fun e w' ⟨he, hw⟩ => by subst hw; exact ⟨he, h, Upon.refl _ _⟩
  exact rtake_goes g s now n w h ok hb ht hp hd
end Go.Proofs.Ytkckfghmdkeobaa
