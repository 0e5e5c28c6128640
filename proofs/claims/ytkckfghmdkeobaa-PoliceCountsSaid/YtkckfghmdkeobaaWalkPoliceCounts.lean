/- The walk of PoliceCounts. Conditions: none. -/
import Derived.Test.YtkckfghmdkeobaaOps
namespace Go.Proofs.Ytkckfghmdkeobaa
open Go.RowKit
set_option linter.unusedVariables false
set_option maxRecDepth 100000 in
set_option maxHeartbeats 2000000 in
theorem policeCounts_yes (r : Rul) (a : Option Addr) (len cap : Nat) (L : Nat → Int × Int) (w : World) (hr : r.ok) (hs : Sl w a len 2 isOp L) (hlen : len ≤ 300) :
    Calls Try.prog 7 #[.agg #[.int .i64 r.smax, .int .i64 r.bag, .int .i64 r.jit, .bool r.fr], .slice a len cap] w fun e w' => e = .returned (.bool true) ∧ Below w.heap.size w w' := by
  have HR := Aside.mk hr
  have HS := Aside.mk hs.ops
  clear hr hs
  go_enter Try.func7, Try.ntmps7
  go_wp2_with fail
  have hba : Below w.heap.size w (w.alloc (.cells r.cells 23)) := (Below.refl _ _).alloc (Nat.le_refl _) _
  have hb : Blk (w.alloc (.cells r.cells 23)) w.heap.size 23 r.cells := Blk.new _ _ _
  change Calls _ _ _ (w.alloc (.cells r.cells 23)) _
  generalize w.alloc (.cells r.cells 23) = wa at hba hb ⊢
  have HA := Aside.mk hba
  have HC : Aside (wa.cell? ⟨w.heap.size, 0, none⟩ = some (.int .i64 r.smax)) := ⟨hb.cell 0⟩
  clear hba hb
  refine (new_yes r _ HR.out).mono ?_
  rintro e w1 ⟨g, rfl, hg, hb, hu⟩
  have H0 := Aside.mk (At.new HR.out hb hu)
  have HG := Aside.mk hg
  clear hb hu hg
  go_wp2_with fail
  refine (credit_zero _ _ _ H0.out.blk H0.out.ok).mono ?_
  rintro e w2 ⟨rfl, rfl⟩
  rw [show (Acc.new r).left = r.full from rfl]
  go_wp2_with fail
  go_loopw [8, 9] (fun va i wr => ∃ (k : Nat) (s : Acc), k ≤ len ∧ i = .int .i64 k ∧ va = .int .i64 (s.passed + s.dropped) ∧ Aside (At wa g wr s k ∧ s.r = r)) (fun _ i _ => len - (intOf i).toNat)
  case atStart => exact ⟨0, _, by omega, rfl, rfl, H0.out, rfl⟩
  case round =>
    clear H0
    obtain ⟨k, s, hk, rfl, rfl, HT⟩ := hrel
    have hp0 := HT.out.1.ok.cnt.1
    have hd0 := HT.out.1.ok.cnt.2
    have hp1 := HT.out.1.passed
    have hd1 := HT.out.1.dropped
    by_cases hlt : k < len
    · obtain ⟨b, off, ha, hcell0, hcell1, hL0, hL1⟩ := HS.out k hlt
      subst ha
      have C1 := Aside.mk (below_cell HA.out hcell1)
      have hc0 := below_cell HT.out.1.below (below_cell HA.out hcell0)
      have hc1 := below_cell HT.out.1.below C1.out
      clear hcell0 hcell1
      go_wp2_with fail
      go_region_with (go_at_call 14; refine (take_at _ _ _ (HT.out.1.drew) HG.out (by omega)).mono ?_; rintro e w2 ⟨rfl, h⟩; have H2 := Aside.mk h; clear h)
      all_goals
        have hsum := Acc.take_sum s (L k).1 (L k).2
        have hrr : (s.take (L k).1 (L k).2).r = r := (s.take_cnt _ _).2.2.trans HT.out.2
        have HX : Aside (At wa g w2 (s.take (L k).1 (L k).2) (k + 1) ∧ (s.take (L k).1 (L k).2).r = r) := ⟨H2.out, hrr⟩
        have hlf := H2.out.ok.left0
        rw [hrr] at hlf
        have hq0 := H2.out.ok.cnt.1
        have hq1 := H2.out.ok.cnt.2
        have hq2 := H2.out.passed
        have hq3 := H2.out.dropped
        clear hrr
        rcases s.err_cases (L k).1 (L k).2 with he | he | he | he | he
        all_goals
          have hz := fun h => (Acc.err_zero (s := s) (now := (L k).1) (n := (L k).2) h).2.2.2.2.1
          rw [he] at hsum hz ⊢
          simp only [counts] at hsum
          generalize s.take (L k).1 (L k).2 = s2 at *
          have HSUM := Aside.mk hsum
          have HZ := Aside.mk hz
          clear hz
          go_wp2_with fail
          refine (passed_calls _ s2 _ H2.out.blk).mono ?_
          rintro e w3 ⟨rfl, nq, rfl⟩
          have H3 : Aside (At wa g (w2.drewN nq) s2 (k + 1)) := ⟨H2.out.drewN nq⟩
          generalize w2.drewN nq = wb at H3 ⊢
          have k1 := below_cell H3.out.below C1.out
          have k2 := below_cell H3.out.below HC.out
          have d1 : decide (s2.left < 0) = false := decide_eq_false (by omega)
          have d2 : decide (r.full < s2.left) = false := decide_eq_false (by omega)
          first
          | have d3 : (s2.passed + s2.dropped != s.passed + s.dropped) = false := by rw [bne_eq_false_iff_eq]; have := HSUM.out; simp at this; omega
          | have d3 : (s2.passed + s2.dropped != s.passed + s.dropped + 1) = false := by rw [bne_eq_false_iff_eq]; have := HSUM.out; simp at this; omega
          try have d4 : decide (r.smax < (L k).2) = false := decide_eq_false (by have := HZ.out (by trivial); rw [← HT.out.2]; omega)
          have hwr : IntKind.i64.wrap (s2.passed + s2.dropped) = s2.passed + s2.dropped := IntWalk.i64_in _ (by omega)
          clear hsum hlf hq0 hq1 hq2 hq3 hc0 hc1
          go_wp2_with fail
          go_quiet ((go_at_call 15; exact Calls.quiet_of_same ((credit_zero _ s2 _ (by exact H3.out.blk) H3.out.ok).mono fun _ _ h => ⟨h.1, h.2.symm⟩)))
          clear k1 k2 hwr
          go_wp2
          go_roundw
          case rel => exact ⟨k + 1, s2, by omega, by go_num, congrArg (Value.int .i64) (by have := HSUM.out; simp at this; omega), H3.out.drewN _, HX.out.2⟩
          case measure => simp [intOf]; omega
    · go_wp2_with fail
      refine (awake_calls _).mono ?_
      rintro e w6 ⟨rfl, hu⟩
      have U6 := Aside.mk hu
      clear hu
      go_wp2
      go_ret
      exact ⟨rfl, below_then (below_then HA.out HA.out.size HT.out.1.below) (Nat.le_trans HA.out.size HT.out.1.below.size) U6.out⟩
set_option maxRecDepth 100000 in
set_option maxHeartbeats 1000000 in
theorem policeCounts_no (r : Rul) (a : Option Addr) (len cap : Nat) (w : World) (hr : r.mayB = false) :
    Calls Try.prog 7 #[.agg #[.int .i64 r.smax, .int .i64 r.bag, .int .i64 r.jit, .bool r.fr], .slice a len cap] w fun e w' => e = .returned (.bool true) ∧ Below w.heap.size w w' := by
  have HR := Aside.mk hr
  clear hr
  go_enter Try.func7, Try.ntmps7
  go_wp2_with fail
  have hba : Below w.heap.size w (w.alloc (.cells r.cells 23)) := (Below.refl _ _).alloc (Nat.le_refl _) _
  change Calls _ _ _ (w.alloc (.cells r.cells 23)) _
  generalize w.alloc (.cells r.cells 23) = wa at hba ⊢
  have HA := Aside.mk hba
  clear hba
  refine (new_no r _ HR.out).mono ?_
  rintro e w1 ⟨rfl, hu⟩
  have HU := Aside.mk hu
  clear hu
  go_wp2_with (go_at_call 11; refine (awake_calls _).mono ?_; rintro e w' ⟨rfl, hb⟩)
  go_ret
  exact ⟨rfl, below_then (below_then HA.out HA.out.size HU.out) (Nat.le_trans HA.out.size HU.out.size) (by assumption)⟩
set_option maxRecDepth 100000 in
set_option maxHeartbeats 1000000 in
theorem policeCounts_out (r : Rul) (a : Option Addr) (len cap : Nat) (w : World) (hr : r.ok) (h : 300 < len) (hm : len ≤ 9223372036854775807) :
    Calls Try.prog 7 #[.agg #[.int .i64 r.smax, .int .i64 r.bag, .int .i64 r.jit, .bool r.fr], .slice a len cap] w fun e w' => e = .returned (.bool true) ∧ Below w.heap.size w w' := by
  have HR := Aside.mk hr
  clear hr
  go_enter Try.func7, Try.ntmps7
  go_wp2_with fail
  have hba : Below w.heap.size w (w.alloc (.cells r.cells 23)) := (Below.refl _ _).alloc (Nat.le_refl _) _
  change Calls _ _ _ (w.alloc (.cells r.cells 23)) _
  generalize w.alloc (.cells r.cells 23) = wa at hba ⊢
  have HA := Aside.mk hba
  clear hba
  refine (new_yes r _ HR.out).mono ?_
  rintro e w1 ⟨g, rfl, hg, hb, hu⟩
  have HU := Aside.mk hu
  clear hu hb hg
  go_wp2_with (go_at_call 11; refine (awake_calls _).mono ?_; rintro e w' ⟨rfl, hb⟩)
  go_ret
  exact ⟨rfl, below_then (below_then HA.out HA.out.size HU.out) (Nat.le_trans HA.out.size HU.out.size) (by assumption)⟩
theorem policeCounts_walk (r : Rul) (a : Option Addr) (len cap : Nat) (L : Nat → Int × Int) (w : World) (_ : (-9223372036854775808 ≤ r.smax ∧ r.smax ≤ 9223372036854775807) ∧ (-9223372036854775808 ≤ r.bag ∧ r.bag ≤ 9223372036854775807) ∧ (-9223372036854775808 ≤ r.jit ∧ r.jit ≤ 9223372036854775807)) (hs : Sl w a len 2 isOp L) :
    Calls Try.prog 7 #[.agg #[.int .i64 r.smax, .int .i64 r.bag, .int .i64 r.jit, .bool r.fr], .slice a len cap] w fun e w' => e = .returned (.bool true) ∧ Below w.heap.size w w' := by
  have hm := hs.1
  unfold maxLen at hm
  cases hr : r.mayB with
  | false => exact policeCounts_no r a len cap w hr
  | true =>
    by_cases h : 300 < len
    · exact policeCounts_out r a len cap w (Rul.ok_of hr) h (by omega)
    · exact policeCounts_yes r a len cap L w (Rul.ok_of hr) hs (by omega)
end Go.Proofs.Ytkckfghmdkeobaa
