/- What the reference of package integ answers and leaves. Conditions: the judge lies in a block of its own. -/
import Derived.Test.YtdihndaphkibbaaInteg
namespace Go.Proofs.Ytdihndaphkibbaa
open Go.RowKit
set_option linter.unusedVariables false
theorem step_lin {a b : Int} (h : 0 ≤ a ∧ a ≤ 255) (hb : 1 ≤ b ∧ b ≤ 255) : step a b = if a < b then b - a else b - a + 255 := by
  unfold step
  rw [if_neg (by omega)]
  split <;> split <;> omega
theorem step_next {a : Int} (h : 0 ≤ a ∧ a ≤ 255) : step a (next a) = 1 := by
  rw [step_lin h (next_range a)]
  unfold next
  split <;> split <;> omega
theorem step_succ {a c : Int} (h : 0 ≤ a ∧ a ≤ 255) (hc : 1 ≤ c ∧ c ≤ 255) (hs : step a c < 255) : step a (next c) = step a c + 1 := by
  rw [step_lin h hc] at hs ⊢
  rw [step_lin h (next_range c)]
  unfold next
  split at hs <;> split <;> split <;> (try split) <;> omega
theorem step_inj {a b c : Int} (h : 0 ≤ a ∧ a ≤ 255) (hb : 1 ≤ b ∧ b ≤ 255) (hc : 1 ≤ c ∧ c ≤ 255) (hs : step a b = step a c) : b = c := by
  rw [step_lin h hb, step_lin h hc] at hs
  split at hs <;> split at hs <;> omega
theorem step_zero {a b : Int} (h : ¬ (0 ≤ a ∧ a ≤ 255) ∨ ¬ (1 ≤ b ∧ b ≤ 255)) : step a b = 0 := by
  unfold step
  rw [if_pos (by omega)]
set_option maxHeartbeats 1000000 in
theorem rstep_calls (a b : Int) (w : World) : Calls Try.prog 10 #[.int .i64 a, .int .i64 b] w fun e w' => e = .returned (.int .i64 (step a b)) ∧ w = w' := by
  by_cases h1 : a < 0
  · have HF := Aside.mk (step_zero (a := a) (b := b) (.inl (by omega)))
    go_enter Try.func10, Try.ntmps10
    go_wp2
    go_ret
    exact ⟨by rw [HF.out]; rfl, rfl⟩
  by_cases h2 : 255 < a
  · have HF := Aside.mk (step_zero (a := a) (b := b) (.inl (by omega)))
    go_enter Try.func10, Try.ntmps10
    go_wp2
    go_ret
    exact ⟨by rw [HF.out]; rfl, rfl⟩
  by_cases h3 : b < 1
  · have HF := Aside.mk (step_zero (a := a) (b := b) (.inr (by omega)))
    go_enter Try.func10, Try.ntmps10
    go_wp2
    go_ret
    exact ⟨by rw [HF.out]; rfl, rfl⟩
  by_cases h4 : 255 < b
  · have HF := Aside.mk (step_zero (a := a) (b := b) (.inr (by omega)))
    go_enter Try.func10, Try.ntmps10
    go_wp2
    go_ret
    exact ⟨by rw [HF.out]; rfl, rfl⟩
  have ha : 0 ≤ a ∧ a ≤ 255 := by omega
  have hb : 1 ≤ b ∧ b ≤ 255 := by omega
  have HA := Aside.mk ha
  have HB := Aside.mk hb
  have HN := Aside.mk (And.intro (step_next ha) (next_range a))
  have HR := Aside.mk (step_range a b)
  have HP : Aside (1 ≤ step a b) := ⟨by unfold step; rw [if_neg (by omega)]; split <;> omega⟩
  clear ha hb
  go_enter Try.func10, Try.ntmps10
  go_wp2_with (go_at_call 15; refine (rnext_calls _ _).mono ?_; rintro e w' ⟨rfl, rfl⟩)
  go_loop [0, 5] (fun c n => ∃ x : Int, c = .int .i64 x ∧ n = .int .i64 (step a x) ∧ Aside (1 ≤ x ∧ x ≤ 255 ∧ step a x ≤ step a b)) (fun _ n => (255 - intOf n).toNat)
  case atStart => exact ⟨next a, rfl, by rw [HN.out.1], HN.out.2.1, HN.out.2.2, by rw [HN.out.1]; exact HP.out⟩
  case round =>
    obtain ⟨x, rfl, rfl, HX⟩ := hrel
    have hr := step_range a x
    obtain ⟨r0, r1⟩ := hr
    by_cases hx : x = b
    · subst hx
      go_wp2
      go_ret
      exact ⟨rfl, rfl⟩
    · have hlt : step a x < step a b := by
        have := HX.out.2.2
        have : step a x ≠ step a b := fun e => hx (step_inj HA.out ⟨HX.out.1, HX.out.2.1⟩ HB.out e)
        omega
      have hr2 := HR.out.2
      have HS := Aside.mk (step_succ HA.out ⟨HX.out.1, HX.out.2.1⟩ (by omega))
      have HXN := Aside.mk (next_range x)
      have HL := Aside.mk hlt
      clear hlt
      go_wp2_with (go_at_call 15; refine (rnext_calls _ _).mono ?_; rintro e w' ⟨rfl, rfl⟩)
      go_round
      case rel => exact ⟨next x, rfl, by rw [HS.out], HXN.out.1, HXN.out.2, by rw [HS.out]; have := HL.out; omega⟩
      case measure => have := HL.out; simp [intOf]; omega

def Jdg.otherOf (s : Jdg) : Int := if s.odd then s.other else -1
def Jdg.rcells (s : Jdg) : Array Value := #[.int .i64 s.lastOf, .int .i64 s.otherOf, .int .i64 s.lost, .int .i64 s.wrong]
theorem next_step {a q : Int} (h : 0 ≤ a ∧ a ≤ 255) (hq : 0 ≤ q ∧ q ≤ 255) : (q == next a) = (step a q == 1) := by
  by_cases h0 : q = 0
  · subst h0
    have e1 : step a 0 = 0 := step_zero (.inr (by omega))
    have := next_range a
    rw [e1, beq_eq_false_iff_ne.2 (by omega)]
    rfl
  · have e : step a q = if a < q then q - a else q - a + 255 := step_lin h (by omega)
    rw [e]
    unfold next
    rw [Bool.eq_iff_iff, beq_iff_eq, beq_iff_eq]
    split <;> split <;> omega
theorem may_seen {s : Jdg} (ok : s.ok) (hs : s.seen = true) {q : Int} (hq : 0 ≤ q ∧ q ≤ 255) : s.may q = (q == 0 || step s.last q == 1 || step s.last q == 2 || (s.odd && step s.other q == 1)) := by
  unfold Jdg.may Jdg.first Jdg.near Jdg.after
  rw [hs, next_step ok.last0 hq, next_step ok.other0 hq]
  simp [Bool.or_assoc]
set_option maxHeartbeats 400000 in
theorem rnew_calls (w : World) : Calls Try.prog 18 #[] w fun e w' => e = .returned (.pointer (some ⟨w.heap.size, 0, none⟩)) ∧ Blk w' w.heap.size 38 Jdg.new.rcells ∧ Below w.heap.size w w' := by
  go_enter Try.func18, Try.ntmps18
  go_wp2
  go_ret
  exact ⟨rfl, Blk.new _ _ _, (Below.refl _ _).alloc (Nat.le_refl _) _⟩
theorem rjdg_cells {w : World} {g : Nat} {s : Jdg} (h : Blk w g 38 s.rcells) : w.cell? ⟨g, 0, none⟩ = some (.int .i64 s.lastOf) ∧ w.cell? ⟨g, 1, none⟩ = some (.int .i64 s.otherOf) ∧ w.cell? ⟨g, 2, none⟩ = some (.int .i64 s.lost) ∧ w.cell? ⟨g, 3, none⟩ = some (.int .i64 s.wrong) :=
  ⟨h.cell 0, h.cell 1, h.cell 2, h.cell 3⟩
set_option maxHeartbeats 400000 in
theorem rreset_calls (g : Nat) (s : Jdg) (w : World) (h : Blk w g 38 s.rcells) : Calls Try.prog 20 #[.pointer (some ⟨g, 0, none⟩)] w fun e w' => e = .returned (.tuple #[]) ∧ Blk w' g 38 s.reset.rcells ∧ Upon (· = g) w w' := by
  obtain ⟨h0, h1, h2, h3⟩ := rjdg_cells h
  have f0 := h.frozen 0
  have f1 := h.frozen 1
  have HB := Aside.mk h
  clear h
  go_enter Try.func20, Try.ntmps20
  go_wp2
  go_end0
  refine ⟨rfl, ?_, ((Upon.refl (· = g) w).setg rfl _ _).setg rfl _ _⟩
  have hb := (HB.out.set 0 (.int .i64 (-1))).set 1 (.int .i64 (-1))
  simpa [Jdg.rcells, Jdg.reset, Jdg.lastOf, Jdg.otherOf] using hb
set_option maxRecDepth 100000 in
set_option maxHeartbeats 1000000 in
theorem rtake_arg (g : Nat) (q : Int) (w : World) (hq : ¬ (0 ≤ q ∧ q ≤ 255)) : Calls Try.prog 21 #[.pointer (some ⟨g, 0, none⟩), .int .i64 q] w fun e w' => e = .returned (.int .i64 1) ∧ w = w' := by
  by_cases h : q < 0
  · clear hq
    go_enter Try.func21, Try.ntmps21
    go_wp2
    go_ret
    exact ⟨rfl, rfl⟩
  · have h2 : 255 < q := by omega
    clear hq
    go_enter Try.func21, Try.ntmps21
    go_wp2
    go_ret
    exact ⟨rfl, rfl⟩
/-- What the reference's Take leaves, when it takes the number. -/
theorem rtaken {s : Jdg} {q : Int} (hq : 0 ≤ q ∧ q ≤ 255) (hm : s.may q = true) : s.err q = 0 ∧ (s.take q).rcells = #[.int .i64 q, .int .i64 (-1), .int .i64 (if s.gap q then s.lost + 1 else s.lost), .int .i64 s.wrong] := by
  have n : ¬ ¬ (0 ≤ q ∧ q ≤ 255) := by omega
  have e : s.err q = if s.may q then 0 else 25 := if_neg n
  have e2 : s.take q = if s.may q then { s with seen := true, last := q, odd := false, lost := if s.gap q then s.lost + 1 else s.lost } else { s with other := q, odd := true, wrong := s.wrong + 1 } := if_neg n
  rw [e, e2, hm]
  simp [Jdg.rcells, Jdg.lastOf, Jdg.otherOf]
theorem rnot {s : Jdg} {q : Int} (hq : 0 ≤ q ∧ q ≤ 255) (hm : s.may q = false) : s.err q = 25 ∧ (s.take q).rcells = #[.int .i64 s.lastOf, .int .i64 q, .int .i64 s.lost, .int .i64 (s.wrong + 1)] := by
  have n : ¬ ¬ (0 ≤ q ∧ q ≤ 255) := by omega
  have e : s.err q = if s.may q then 0 else 25 := if_neg n
  have e2 : s.take q = if s.may q then { s with seen := true, last := q, odd := false, lost := if s.gap q then s.lost + 1 else s.lost } else { s with other := q, odd := true, wrong := s.wrong + 1 } := if_neg n
  rw [e, e2, hm]
  simp [Jdg.rcells, Jdg.lastOf, Jdg.otherOf]
set_option maxRecDepth 100000 in
set_option maxHeartbeats 2000000 in
theorem rtake_look (g : Nat) (s : Jdg) (q : Int) (w : World) (h : Blk w g 38 s.rcells) (ok : s.ok) (hq : 0 ≤ q ∧ q ≤ 255) (hl : s.lost ≤ 1125899906842624) (hw : s.wrong ≤ 1125899906842624) : Calls Try.prog 21 #[.pointer (some ⟨g, 0, none⟩), .int .i64 q] w fun e w' => e = .returned (.int .i64 (s.err q)) ∧ Blk w' g 38 (s.take q).rcells ∧ Upon (· = g) w w' := by
  obtain ⟨h0, h1, h2, h3⟩ := rjdg_cells h
  have f0 := h.frozen 0
  have f1 := h.frozen 1
  have f2 := h.frozen 2
  have f3 := h.frozen 3
  have HB := Aside.mk h
  have HQ := Aside.mk hq
  have hl0 := ok.lost0
  have hw0 := ok.wrong0
  obtain ⟨q0, q1⟩ := hq
  have fin0 : Aside (s.may q = true → s.gap q = false → ∀ w1 : World, Blk w1 g 38 s.rcells → Blk ((w1.setCell ⟨g, 0, none⟩ (.int .i64 q)).setCell ⟨g, 1, none⟩ (.int .i64 (-1))) g 38 (s.take q).rcells) := ⟨fun hm hg w1 hb => by
    have hb := (hb.set 0 (.int .i64 q)).set 1 (.int .i64 (-1))
    rw [(rtaken HQ.out hm).2, hg]
    simpa [Jdg.rcells] using hb⟩
  have fin1 : Aside (s.may q = true → s.gap q = true → ∀ w1 : World, Blk w1 g 38 s.rcells → Blk (((w1.setCell ⟨g, 2, none⟩ (.int .i64 (s.lost + 1))).setCell ⟨g, 0, none⟩ (.int .i64 q)).setCell ⟨g, 1, none⟩ (.int .i64 (-1))) g 38 (s.take q).rcells) := ⟨fun hm hg w1 hb => by
    have hb := ((hb.set 2 (.int .i64 (s.lost + 1))).set 0 (.int .i64 q)).set 1 (.int .i64 (-1))
    rw [(rtaken HQ.out hm).2, hg]
    simpa [Jdg.rcells] using hb⟩
  cases hs : s.seen with
  | false =>
    have hm : s.may q = true := by unfold Jdg.may Jdg.first; rw [hs]; rfl
    have hg : s.gap q = false := by unfold Jdg.gap; rw [hs]; rfl
    have E1 := Aside.mk (rtaken HQ.out hm).1
    have FIN := Aside.mk (fin0.out hm hg)
    have e : s.lastOf = -1 := by unfold Jdg.lastOf; rw [hs]; rfl
    rw [e] at h0
    clear e hm hg hs h
    go_enter Try.func21, Try.ntmps21
    go_wp2_with (go_at_call 10; refine (rstep_calls _ _ _).mono ?_; rintro e w' ⟨rfl, rfl⟩)
    go_ret
    exact ⟨by rw [E1.out]; rfl, FIN.out _ HB.out, ((Upon.refl (· = g) w).setg rfl _ _).setg rfl _ _⟩
  | true =>
    have hm := may_seen ok hs HQ.out
    have hgp : s.gap q = (step s.last q == 2) := by unfold Jdg.gap; rw [hs]; rfl
    have e : s.lastOf = s.last := by unfold Jdg.lastOf; rw [hs]; rfl
    have l0 := ok.last0.1
    rw [e] at h0
    clear e h hs
    by_cases c1 : q = 0
    · subst c1
      have hx : step s.last 0 = 0 := step_zero (.inr (by omega))
      have hm2 : s.may 0 = true := by rw [hm]; rfl
      have hg2 : s.gap 0 = false := by rw [hgp, hx]; rfl
      have E1 := Aside.mk (rtaken HQ.out hm2).1
      have FIN := Aside.mk (fin0.out hm2 hg2)
      have HX := Aside.mk hx
      clear hm hgp hm2 hg2 hx
      go_enter Try.func21, Try.ntmps21
      go_wp2_with (go_at_call 10; refine (rstep_calls _ _ _).mono ?_; rintro e w' ⟨rfl, rfl⟩; rw [HX.out])
      go_ret
      exact ⟨by rw [E1.out]; rfl, FIN.out _ HB.out, ((Upon.refl (· = g) w).setg rfl _ _).setg rfl _ _⟩
    by_cases c2 : step s.last q = 1
    · have hm2 : s.may q = true := by rw [hm, c2]; simp
      have hg2 : s.gap q = false := by rw [hgp, c2]; rfl
      have E1 := Aside.mk (rtaken HQ.out hm2).1
      have FIN := Aside.mk (fin0.out hm2 hg2)
      have HX := Aside.mk c2
      clear hm hgp hm2 hg2 c2
      go_enter Try.func21, Try.ntmps21
      go_wp2_with (go_at_call 10; refine (rstep_calls _ _ _).mono ?_; rintro e w' ⟨rfl, rfl⟩; rw [HX.out])
      go_ret
      exact ⟨by rw [E1.out]; rfl, FIN.out _ HB.out, ((Upon.refl (· = g) w).setg rfl _ _).setg rfl _ _⟩
    by_cases c3 : step s.last q = 2
    · have hm2 : s.may q = true := by rw [hm, c3]; simp
      have hg2 : s.gap q = true := by rw [hgp, c3]; rfl
      have E1 := Aside.mk (rtaken HQ.out hm2).1
      have FIN := Aside.mk (fin1.out hm2 hg2)
      have HX := Aside.mk c3
      clear hm hgp hm2 hg2 c3 c2
      go_enter Try.func21, Try.ntmps21
      go_wp2_with (go_at_call 10; refine (rstep_calls _ _ _).mono ?_; rintro e w' ⟨rfl, rfl⟩; rw [HX.out])
      go_ret
      exact ⟨by rw [E1.out]; rfl, FIN.out _ HB.out, (((Upon.refl (· = g) w).setg rfl _ _).setg rfl _ _).setg rfl _ _⟩
    have hg2 : s.gap q = false := by rw [hgp]; simpa using c3
    have d1 : (q == 0) = false := by simpa using c1
    have d2 : (step s.last q == 1) = false := by simpa using c2
    have d3 : (step s.last q == 2) = false := by simpa using c3
    rw [d1, d2, d3] at hm
    simp only [Bool.or_self, Bool.false_or] at hm
    cases ho : s.odd with
    | false =>
      rw [ho, Bool.false_and] at hm
      have E1 := Aside.mk (rnot HQ.out hm).1
      have FIN : Aside (∀ w1 : World, Blk w1 g 38 s.rcells → Blk ((w1.setCell ⟨g, 1, none⟩ (.int .i64 q)).setCell ⟨g, 3, none⟩ (.int .i64 (s.wrong + 1))) g 38 (s.take q).rcells) := ⟨fun w1 hb => by
        have hb := (hb.set 1 (.int .i64 q)).set 3 (.int .i64 (s.wrong + 1))
        rw [(rnot HQ.out hm).2]
        simpa [Jdg.rcells] using hb⟩
      have e : s.otherOf = -1 := by unfold Jdg.otherOf; rw [ho]; rfl
      rw [e] at h1
      clear hm hgp hg2 c1 c2 c3 e ho
      go_enter Try.func21, Try.ntmps21
      go_wp2_with (go_at_call 10; refine (rstep_calls _ _ _).mono ?_; rintro e w' ⟨rfl, rfl⟩)
      go_ret
      exact ⟨by rw [E1.out]; rfl, FIN.out _ HB.out, ((Upon.refl (· = g) w).setg rfl _ _).setg rfl _ _⟩
    | true =>
      rw [ho, Bool.true_and] at hm
      have e : s.otherOf = s.other := by unfold Jdg.otherOf; rw [ho]; rfl
      have o0 := ok.other0.1
      rw [e] at h1
      cases hx : (step s.other q == 1) with
      | true =>
        rw [hx] at hm
        have E1 := Aside.mk (rtaken HQ.out hm).1
        have FIN := Aside.mk (fin0.out hm hg2)
        clear hm hgp hg2 c1 c2 c3 e ho
        go_enter Try.func21, Try.ntmps21
        go_wp2_with (go_at_call 10; refine (rstep_calls _ _ _).mono ?_; rintro e w' ⟨rfl, rfl⟩)
        go_ret
        exact ⟨by rw [E1.out]; rfl, FIN.out _ HB.out, ((Upon.refl (· = g) w).setg rfl _ _).setg rfl _ _⟩
      | false =>
        rw [hx] at hm
        have E1 := Aside.mk (rnot HQ.out hm).1
        have FIN : Aside (∀ w1 : World, Blk w1 g 38 s.rcells → Blk ((w1.setCell ⟨g, 1, none⟩ (.int .i64 q)).setCell ⟨g, 3, none⟩ (.int .i64 (s.wrong + 1))) g 38 (s.take q).rcells) := ⟨fun w1 hb => by
          have hb := (hb.set 1 (.int .i64 q)).set 3 (.int .i64 (s.wrong + 1))
          rw [(rnot HQ.out hm).2]
          simpa [Jdg.rcells] using hb⟩
        clear hm hgp hg2 c1 c2 c3 e ho
        go_enter Try.func21, Try.ntmps21
        go_wp2_with (go_at_call 10; refine (rstep_calls _ _ _).mono ?_; rintro e w' ⟨rfl, rfl⟩)
        go_ret
        exact ⟨by rw [E1.out]; rfl, FIN.out _ HB.out, ((Upon.refl (· = g) w).setg rfl _ _).setg rfl _ _⟩
theorem rtake_calls (g : Nat) (s : Jdg) (q : Int) (w : World) (h : Blk w g 38 s.rcells) (ok : s.ok) (hl : s.lost ≤ 1125899906842624) (hw : s.wrong ≤ 1125899906842624) : Calls Try.prog 21 #[.pointer (some ⟨g, 0, none⟩), .int .i64 q] w fun e w' => e = .returned (.int .i64 (s.err q)) ∧ Blk w' g 38 (s.take q).rcells ∧ Upon (· = g) w w' := by
  by_cases hq : 0 ≤ q ∧ q ≤ 255
  · exact rtake_look g s q w h ok hq hl hw
  · have e1 : s.err q = 1 := by unfold Jdg.err; rw [if_pos hq]
    have e2 : s.take q = s := by unfold Jdg.take; rw [if_pos hq]
    rw [e1, e2]
    exact (rtake_arg g q w hq).mono fun e w' ⟨he, hw⟩ => by subst hw; exact ⟨he, h, Upon.refl _ _⟩
end Go.Proofs.Ytdihndaphkibbaa
