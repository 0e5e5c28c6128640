/- What the reference's May and Conforms answer. Conditions: the slices read as whole numbers. -/
import Derived.Test.YtkckfghmdkeobaaConf
import Derived.Test.YtkckfghmdkeobaaCls
namespace Go.Proofs.Ytkckfghmdkeobaa
open Go.RowKit
set_option linter.unusedVariables false
set_option maxHeartbeats 1000000 in
theorem refmay_calls (r : Rul) (w : World) : Calls Try.prog 25 #[.agg #[.int .i64 r.smax, .int .i64 r.bag, .int .i64 r.jit, .bool r.fr]] w fun e w' => e = .returned (.bool r.mayB) ∧ Below w.heap.size w w' := by
  have HU : Aside (Below w.heap.size w (w.alloc (.cells r.cells 32))) := ⟨(Below.refl _ _).alloc (Nat.le_refl _) _⟩
  have key : (r.smax < 64) ∨ (¬ r.smax < 64 ∧ 1518 < r.smax) ∨ (¬ r.smax < 64 ∧ ¬ 1518 < r.smax ∧ r.bag < 0) ∨ (¬ r.smax < 64 ∧ ¬ 1518 < r.smax ∧ ¬ r.bag < 0 ∧ 7 < r.bag) ∨ (¬ r.smax < 64 ∧ ¬ 1518 < r.smax ∧ ¬ r.bag < 0 ∧ ¬ 7 < r.bag ∧ r.jit < 0) ∨ (¬ r.smax < 64 ∧ ¬ 1518 < r.smax ∧ ¬ r.bag < 0 ∧ ¬ 7 < r.bag ∧ ¬ r.jit < 0 ∧ 1073741824 < r.jit) ∨ (¬ r.smax < 64 ∧ ¬ 1518 < r.smax ∧ ¬ r.bag < 0 ∧ ¬ 7 < r.bag ∧ ¬ r.jit < 0 ∧ ¬ 1073741824 < r.jit) := by omega
  rcases key with h | ⟨h1, h⟩ | ⟨h1, h2, h⟩ | ⟨h1, h2, h3, h⟩ | ⟨h1, h2, h3, h4, h⟩ | ⟨h1, h2, h3, h4, h5, h⟩ | ⟨h1, h2, h3, h4, h5, h⟩
  all_goals
    go_enter Try.func25, Try.ntmps25
    go_wp2
    go_ret
    exact ⟨by first | (rw [Rul.mayB_true (by omega)]; rfl) | (rw [Rul.mayB_false (by omega)]; rfl) | (rw [Rul.mayB_true (by omega)]; simp; omega) | (rw [Rul.mayB_false (by omega)]; simp; omega), HU.out⟩
set_option maxRecDepth 100000 in
set_option maxHeartbeats 1000000 in
theorem rconf_no_calls (r : Rul) (a1 : Option Addr) (n cap1 : Nat) (D : Nat → Int) (a2 : Option Addr) (m cap2 : Nat) (C : Nat → Int) (w : World) (hr : r.mayB = false) :
    Calls Try.prog 21 #[.agg #[.int .i64 r.smax, .int .i64 r.bag, .int .i64 r.jit, .bool r.fr], .slice a1 n cap1, .slice a2 m cap2] w (ConfPost r n D m C w) := by
  have HM := Aside.mk hr
  have NO : Aside (¬ Conf r n D m C) := ⟨fun h => by have := h.1; rw [hr] at this; cases this⟩
  clear hr
  go_enter Try.func21, Try.ntmps21
  go_wp2_with fail
  have hba : Below w.heap.size w (w.alloc (.cells r.cells 32)) := (Below.refl _ _).alloc (Nat.le_refl _) _
  change Calls _ _ _ (w.alloc (.cells r.cells 32)) _
  generalize w.alloc (.cells r.cells 32) = wa at hba ⊢
  refine (refmay_calls r _).mono ?_
  rintro e w1 ⟨rfl, hu⟩
  rw [HM.out]
  have H1 := Aside.mk (below_then hba hba.size hu)
  clear hba hu
  go_wp2
  go_ret
  exact conf_no NO.out H1.out
set_option maxRecDepth 100000 in
set_option maxHeartbeats 1000000 in
theorem rconf_len_calls (r : Rul) (a1 : Option Addr) (n cap1 : Nat) (D : Nat → Int) (a2 : Option Addr) (m cap2 : Nat) (C : Nat → Int) (w : World) (hr : r.ok) (hnm : n ≠ m) :
    Calls Try.prog 21 #[.agg #[.int .i64 r.smax, .int .i64 r.bag, .int .i64 r.jit, .bool r.fr], .slice a1 n cap1, .slice a2 m cap2] w (ConfPost r n D m C w) := by
  have HM := Aside.mk hr.mayB
  have NO : Aside (¬ Conf r n D m C) := ⟨fun h => hnm h.2.1⟩
  have hne : (n != m) = true := by simpa using hnm
  have hne2 : (((n : Nat) : Int) != ((m : Nat) : Int)) = true := by simp; omega
  clear hr
  go_enter Try.func21, Try.ntmps21
  go_wp2_with fail
  have hba : Below w.heap.size w (w.alloc (.cells r.cells 32)) := (Below.refl _ _).alloc (Nat.le_refl _) _
  change Calls _ _ _ (w.alloc (.cells r.cells 32)) _
  generalize w.alloc (.cells r.cells 32) = wa at hba ⊢
  refine (refmay_calls r _).mono ?_
  rintro e w1 ⟨rfl, hu⟩
  rw [HM.out]
  have H1 := Aside.mk (below_then hba hba.size hu)
  clear hba hu
  go_wp2
  go_ret
  exact conf_no NO.out H1.out
theorem conf_of {r : Rul} {n : Nat} {D C : Nat → Int} (hm : r.mayB = true) (h : OkAll r n D C) (hs : Sorted n C) : Conf r n D n C := ⟨hm, rfl, hs, h⟩
set_option maxRecDepth 100000 in
set_option maxHeartbeats 8000000 in
theorem rconf_yes_calls (r : Rul) (a1 : Option Addr) (n cap1 : Nat) (D : Nat → Int) (a2 : Option Addr) (cap2 : Nat) (C : Nat → Int) (w : World) (hd : IntsAt w a1 n D) (hc : IntsAt w a2 n C) (hr : r.ok) :
    Calls Try.prog 21 #[.agg #[.int .i64 r.smax, .int .i64 r.bag, .int .i64 r.jit, .bool r.fr], .slice a1 n cap1, .slice a2 n cap2] w (ConfPost r n D n C w) := by
  have HR := Aside.mk hr
  have HM := Aside.mk hr.mayB
  have HD := Aside.mk hd
  have HC := Aside.mk hc
  have hn := hd.1
  obtain ⟨p0, p1⟩ := hr.per_le
  have j0 := hr.j0
  have j1 := hr.j1
  clear hd hc hr
  go_enter Try.func21, Try.ntmps21
  go_wp2_with fail
  have hba : Below w.heap.size w (w.alloc (.cells r.cells 32)) := (Below.refl _ _).alloc (Nat.le_refl _) _
  have hb : Blk (w.alloc (.cells r.cells 32)) w.heap.size 32 r.cells := Blk.new _ _ _
  change Calls _ _ _ (w.alloc (.cells r.cells 32)) _
  generalize w.alloc (.cells r.cells 32) = wa at hba hb ⊢
  refine (refmay_calls r _).mono ?_
  rintro e w1 ⟨rfl, hu⟩
  rw [HM.out]
  have H1 := Aside.mk (And.intro (below_then hba hba.size hu) (hb.below hu))
  clear hba hb hu
  go_wp2_with fail
  go_loopw [7] (fun i wr => ∃ (k : Nat), k ≤ n ∧ i = .int .i64 k ∧ Aside (Below w.heap.size w wr ∧ Blk wr w.heap.size 32 r.cells ∧ OkAll r k D C ∧ Sorted k C)) (fun i _ => n - (intOf i).toNat)
  case atStart => exact ⟨0, by omega, rfl, H1.out.1, H1.out.2, fun i hi => by omega, fun i hi => by omega⟩
  case round =>
    clear H1
    obtain ⟨k, hk, rfl, HT⟩ := hrel
    by_cases hlt : k < n
    · obtain ⟨b1, o1, ha1, hx1⟩ := HD.out.2 (by omega)
      obtain ⟨b2, o2, ha2, hx2⟩ := HC.out.2 (by omega)
      subst ha1 ha2
      have c1 := below_cell HT.out.1 (hx1 k hlt).1
      have c2 := below_cell HT.out.1 (hx2 k hlt).1
      have r1 := (hx1 k hlt).2
      have r2 := (hx2 k hlt).2
      have z2 : wr.cell? ⟨w.heap.size, 2, none⟩ = some (.int .i64 r.jit) := HT.out.2.1.cell 2
      have i0 : (0 : Int) ≤ (k : Int) := by omega
      have i1 : (k : Int) < (n : Int) := by omega
      by_cases hbad : D k < 0 ∨ (¬ D k < 0 ∧ 1125899906842624 < D k) ∨ (¬ D k < 0 ∧ ¬ 1125899906842624 < D k ∧ C k < D k) ∨ (¬ D k < 0 ∧ ¬ 1125899906842624 < D k ∧ ¬ C k < D k ∧ 1125899906842624 < C k) ∨ (¬ D k < 0 ∧ ¬ 1125899906842624 < D k ∧ ¬ C k < D k ∧ ¬ 1125899906842624 < C k ∧ r.jit < C k - D k)
      · have NO : Aside (¬ Conf r n D n C) := ⟨fun h => by
          have := (h.2.2.2 k hlt).1
          unfold OkA at this
          omega⟩
        clear hx1 hx2
        rcases hbad with h | ⟨g1, h⟩ | ⟨g1, g2, h⟩ | ⟨g1, g2, g3, h⟩ | ⟨g1, g2, g3, g4, h⟩
        · have d1 : decide (D k < 0) = true := decide_eq_true h
          go_wp2_with fail
          go_quiet (fail)
          go_wp2
          go_ret
          exact conf_no NO.out (below_drewN HT.out.1 _)
        · have d1 : decide (D k < 0) = false := decide_eq_false g1
          have d2 : decide (1125899906842624 < D k) = true := decide_eq_true h
          go_wp2_with fail
          go_quiet (fail)
          go_wp2
          go_ret
          exact conf_no NO.out (below_drewN HT.out.1 _)
        · have d1 : decide (D k < 0) = false := decide_eq_false g1
          have d2 : decide (1125899906842624 < D k) = false := decide_eq_false g2
          have d3 : decide (C k < D k) = true := decide_eq_true h
          go_wp2_with fail
          go_quiet (fail)
          go_wp2
          go_ret
          exact conf_no NO.out (below_drewN HT.out.1 _)
        · have d1 : decide (D k < 0) = false := decide_eq_false g1
          have d2 : decide (1125899906842624 < D k) = false := decide_eq_false g2
          have d3 : decide (C k < D k) = false := decide_eq_false g3
          have d4 : decide (1125899906842624 < C k) = true := decide_eq_true h
          go_wp2_with fail
          go_quiet (fail)
          go_wp2
          go_ret
          exact conf_no NO.out (below_drewN HT.out.1 _)
        · have d1 : decide (D k < 0) = false := decide_eq_false g1
          have d2 : decide (1125899906842624 < D k) = false := decide_eq_false g2
          have d3 : decide (C k < D k) = false := decide_eq_false g3
          have d4 : decide (1125899906842624 < C k) = false := decide_eq_false g4
          have d5 : decide (r.jit < C k - D k) = true := decide_eq_true h
          have hw1 : IntKind.i64.wrap (C k - D k) = C k - D k := IntWalk.i64_in _ (by omega)
          go_wp2_with fail
          go_quiet (fail)
          go_wp2
          go_ret
          exact conf_no NO.out (below_drewN HT.out.1 _)
      · have g1 : ¬ D k < 0 := by omega
        have g2 : ¬ 1125899906842624 < D k := by omega
        have g3 : ¬ C k < D k := by omega
        have g4 : ¬ 1125899906842624 < C k := by omega
        have g5 : ¬ r.jit < C k - D k := by omega
        have d1 : decide (D k < 0) = false := decide_eq_false g1
        have d2 : decide (1125899906842624 < D k) = false := decide_eq_false g2
        have d3 : decide (C k < D k) = false := decide_eq_false g3
        have d4 : decide (1125899906842624 < C k) = false := decide_eq_false g4
        have d5 : decide (r.jit < C k - D k) = false := decide_eq_false g5
        have hw1 : IntKind.i64.wrap (C k - D k) = C k - D k := IntWalk.i64_in _ (by omega)
        have OA : Aside (OkA r (D k) (C k)) := ⟨⟨by omega, by omega, by omega, by omega⟩⟩
        have G := Aside.mk (And.intro g1 (And.intro g2 (And.intro g3 g4)))
        clear hbad g1 g2 g3 g4 g5
        by_cases hk0 : k = 0
        · subst hk0
          clear hx1 hx2
          simp only [Nat.add_zero] at c1 c2
          have hf : decide ((0 : Int) < ((0 : Nat) : Int)) = false := by simp
          have HF : Aside (OkAll r (0 + 1) D C ∧ Sorted (0 + 1) C) := ⟨fun i hi => by
            have : i = 0 := by omega
            subst this
            exact ⟨OA.out, fun h => absurd h (Nat.lt_irrefl _)⟩, fun i hi => by omega⟩
          go_wp2_with fail
          go_quiet (fail)
          go_wp2
          go_quiet (fail)
          go_wp2
          go_roundw
          case rel => exact ⟨0 + 1, by omega, by go_num, below_drewN HT.out.1 _, HT.out.2.1, HF.out.1, HF.out.2⟩
          case measure => simp [intOf]; omega
        · obtain ⟨j, rfl⟩ : ∃ j : Nat, k = j + 1 := ⟨k - 1, by omega⟩
          have k3 := below_cell HT.out.1 (hx1 j (by omega)).1
          have k4 := below_cell HT.out.1 (hx2 j (by omega)).1
          have hj0 := (HT.out.2.2.1 j (by omega)).1
          have j3 : 0 ≤ D j := hj0.1
          have j4 : D j ≤ 1125899906842624 := by have := hj0.2.1; have := hj0.2.2.1; omega
          have z0 : wr.cell? ⟨w.heap.size, 0, none⟩ = some (.int .i64 r.smax) := HT.out.2.1.cell 0
          have z1 : wr.cell? ⟨w.heap.size, 1, none⟩ = some (.int .i64 r.bag) := HT.out.2.1.cell 1
          have z3 : wr.cell? ⟨w.heap.size, 3, none⟩ = some (.bool r.fr) := HT.out.2.1.cell 3
          have hw2 : IntKind.i64.wrap (D (j + 1) - D j) = D (j + 1) - D j := IntWalk.i64_in _ (by have := G.out; omega)
          have hw4 : IntKind.i64.wrap ((j : Int) + 1 - 1) = (j : Int) := by rw [IntWalk.i64_in _ (by omega)]; omega
          have hw5 : IntKind.i64.wrap (j : Int) = (j : Int) := IntWalk.i64_in _ (by omega)
          have hi0 : (0 : Int) ≤ (j : Int) := by omega
          have hi1 : (j : Int) < (n : Int) := by omega
          have hi3 : (0 : Int) ≤ (j : Int) + 1 := by omega
          have hi4 : (j : Int) + 1 < (n : Int) := by omega
          have hi2 : decide ((0 : Int) < (j : Int) + 1) = true := decide_eq_true (by omega)
          clear hx1 hx2 hj0
          go_wp2_with fail
          go_quiet (fail)
          have HT2 : Aside (Below w.heap.size w (wr.drewN nq) ∧ Blk (wr.drewN nq) w.heap.size 32 r.cells) := ⟨below_drewN HT.out.1 _, HT.out.2.1⟩
          have HO := Aside.mk HT.out.2.2
          have c1 : (wr.drewN nq).cell? ⟨b1, o1 + (j + 1), none⟩ = some (.int .i64 (D (j + 1))) := c1
          have c2 : (wr.drewN nq).cell? ⟨b2, o2 + (j + 1), none⟩ = some (.int .i64 (C (j + 1))) := c2
          have k3 : (wr.drewN nq).cell? ⟨b1, o1 + j, none⟩ = some (.int .i64 (D j)) := k3
          have k4 : (wr.drewN nq).cell? ⟨b2, o2 + j, none⟩ = some (.int .i64 (C j)) := k4
          have z0 : (wr.drewN nq).cell? ⟨w.heap.size, 0, none⟩ = some (.int .i64 r.smax) := z0
          have z1 : (wr.drewN nq).cell? ⟨w.heap.size, 1, none⟩ = some (.int .i64 r.bag) := z1
          have z2 : (wr.drewN nq).cell? ⟨w.heap.size, 2, none⟩ = some (.int .i64 r.jit) := z2
          have z3 : (wr.drewN nq).cell? ⟨w.heap.size, 3, none⟩ = some (.bool r.fr) := z3
          generalize wr.drewN nq = wb at HT2 c1 c2 k3 k4 z0 z1 z2 z3 ⊢
          clear d1 d2 d3 d4 d5 hw1
          have y1 := fun x : Cls wb => x.cell c1
          have y2 := fun x : Cls wb => x.cell c2
          have y3 := fun x : Cls wb => x.cell k3
          have y4 := fun x : Cls wb => x.cell k4
          have y5 := fun x : Cls wb => x.cell z0
          have y6 := fun x : Cls wb => x.cell z1
          have y7 := fun x : Cls wb => x.cell z2
          have y8 := fun x : Cls wb => x.cell z3
          by_cases e1 : D (j + 1) < D j
          · have NO : Aside (¬ Conf r n D n C) := ⟨fun h => by
              have := (h.2.2.2 (j + 1) hlt).2 (by omega)
              simp only [Nat.add_sub_cancel] at this
              omega⟩
            have f1 : decide (D (j + 1) < D j) = true := decide_eq_true e1
            go_wp2_with fail
            go_quiet (fail)
            go_wp2
            go_ret
            exact conf_no NO.out (below_drewN HT2.out.1 _)
          have f1 : decide (D (j + 1) < D j) = false := decide_eq_false e1
          by_cases e2 : D (j + 1) - D j < r.per
          · have NO : Aside (¬ Conf r n D n C) := ⟨fun h => by
              have := (h.2.2.2 (j + 1) hlt).2 (by omega)
              simp only [Nat.add_sub_cancel] at this
              omega⟩
            have f2 : decide (D (j + 1) - D j < r.per) = true := decide_eq_true e2
            clear e1 e2
            go_wp2_with fail
            refine region_cls (by kernel_rfl) (by kernel_rfl) ?_
            repeat (go_big_quiet_step ((go_at_call 12; exact Cls.calls _ (refperiod_calls r _ HR.out))))
            refine wpQuiet_nil ?_
            intro _ hw'
            obtain ⟨x, hw''⟩ := hw'
            subst hw''
            have hu := x.below
            all_goals
              go_wp2
              go_ret
              exact conf_no NO.out (below_then HT2.out.1 HT2.out.1.size hu)
          have f2 : decide (D (j + 1) - D j < r.per) = false := decide_eq_false e2
          by_cases e3 : C (j + 1) < C j
          · have NO : Aside (¬ Conf r n D n C) := ⟨fun h => by
              have := h.2.2.1 j hlt
              omega⟩
            have f3 : decide (C (j + 1) < C j) = true := decide_eq_true e3
            clear e1 e2 e3
            go_wp2_with fail
            refine region_cls (by kernel_rfl) (by kernel_rfl) ?_
            repeat (go_big_quiet_step ((go_at_call 12; exact Cls.calls _ (refperiod_calls r _ HR.out))))
            refine wpQuiet_nil ?_
            intro _ hw'
            obtain ⟨x, hw''⟩ := hw'
            subst hw''
            have hu := x.below
            all_goals
              go_wp2
              go_ret
              exact conf_no NO.out (below_then HT2.out.1 HT2.out.1.size hu)
          · have f3 : decide (C (j + 1) < C j) = false := decide_eq_false e3
            have HF : Aside (OkAll r (j + 1 + 1) D C ∧ Sorted (j + 1 + 1) C) := ⟨fun i hi => by
              by_cases hij : i < j + 1
              · exact HO.out.1 i hij
              · have : i = j + 1 := by omega
                subst this
                exact ⟨OA.out, fun _ => by simp only [Nat.add_sub_cancel]; omega⟩, fun i hi => by
              by_cases hij : i + 1 < j + 1
              · exact HO.out.2 i hij
              · have : i = j := by omega
                subst this
                omega⟩
            clear e1 e2 e3
            go_wp2_with fail
            refine region_cls (by kernel_rfl) (by kernel_rfl) ?_
            repeat (go_big_quiet_step ((go_at_call 12; exact Cls.calls _ (refperiod_calls r _ HR.out))))
            refine wpQuiet_nil ?_
            intro _ hw'
            obtain ⟨x, hw''⟩ := hw'
            subst hw''
            have hu := x.below
            all_goals
              go_wp2
              go_roundw
              case rel => exact ⟨j + 1 + 1, by omega, by go_num, below_then HT2.out.1 HT2.out.1.size hu, HT2.out.2.below hu, HF.out.1, HF.out.2⟩
              case measure => simp [intOf]; omega
    · have : k = n := by omega
      subst this
      have YES : Aside (Conf r k D k C) := ⟨conf_of HM.out HT.out.2.2.1 HT.out.2.2.2⟩
      go_wp2
      go_ret
      exact conf_yes YES.out HT.out.1
theorem rconf_calls (r : Rul) (a1 : Option Addr) (n cap1 : Nat) (D : Nat → Int) (a2 : Option Addr) (m cap2 : Nat) (C : Nat → Int) (w : World) (hd : IntsAt w a1 n D) (hc : IntsAt w a2 m C) :
    Calls Try.prog 21 #[.agg #[.int .i64 r.smax, .int .i64 r.bag, .int .i64 r.jit, .bool r.fr], .slice a1 n cap1, .slice a2 m cap2] w (ConfPost r n D m C w) := by
  cases hr : r.mayB with
  | false => exact rconf_no_calls r a1 n cap1 D a2 m cap2 C w hr
  | true =>
    by_cases h : n = m
    · subst h
      exact rconf_yes_calls r a1 n cap1 D a2 cap2 C w hd hc (Rul.ok_of hr)
    · exact rconf_len_calls r a1 n cap1 D a2 m cap2 C w (Rul.ok_of hr) h
noncomputable def confB (r : Rul) (n : Nat) (D : Nat → Int) (m : Nat) (C : Nat → Int) : Bool := @decide (Conf r n D m C) (Classical.propDecidable _)
theorem confB_of {r : Rul} {n : Nat} {D : Nat → Int} {m : Nat} {C : Nat → Int} {w : World} {e : Ending} {w' : World} (h : ConfPost r n D m C w e w') : e = .returned (.bool (confB r n D m C)) ∧ Below w.heap.size w w' := by
  obtain ⟨b, rfl, hb, hu⟩ := h
  refine ⟨?_, hu⟩
  unfold confB
  cases b with
  | true => rw [@decide_eq_true _ (Classical.propDecidable _) (hb.1 rfl)]
  | false => rw [@decide_eq_false _ (Classical.propDecidable _) (fun h => by have := hb.2 h; cases this)]
end Go.Proofs.Ytkckfghmdkeobaa
