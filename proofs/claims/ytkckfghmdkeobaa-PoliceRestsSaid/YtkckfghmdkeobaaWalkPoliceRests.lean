/- The walk of PoliceRests. Conditions: none. -/
import Derived.Test.YtkckfghmdkeobaaRefP
namespace Go.Proofs.Ytkckfghmdkeobaa
open Go.RowKit
set_option linter.unusedVariables false
theorem rest_full {s : Acc} (ok : s.ok) : s.creditOf (s.now + s.r.per + s.r.jit) = s.r.full := by
  have := ok.r.per_le
  have := ok.r.j0
  have := ok.left0
  unfold Acc.creditOf
  rw [if_neg (by omega), if_neg (by omega), show s.now + s.r.per + s.r.jit - s.now = s.r.per + s.r.jit from by omega]
  unfold Rul.full at *
  split <;> omega
theorem rest_err {s : Acc} (ok : s.ok) (h : s.now ≤ 281474976710656) : s.err (s.now + s.r.per + s.r.jit) s.r.smax = 0 := by
  have p := ok.r.per_le
  have j0 := ok.r.j0
  have j1 := ok.r.j1
  have n0 := ok.now0
  have s0 := ok.r.s0
  have := Int.mul_nonneg (show 0 ≤ s.r.smax by omega) j0
  unfold Acc.err
  rw [if_neg (by unfold Acc.bad; omega), if_neg (by omega), if_neg (by omega), rest_full ok, if_neg]
  unfold Acc.costOf Rul.full
  rw [Int.mul_add]
  have e : (if s.r.fr = true then s.r.smax else s.r.smax) = s.r.smax := by split <;> rfl
  rw [e]
  omega
set_option maxRecDepth 100000 in
set_option maxHeartbeats 2000000 in
theorem policeRests_yes (r : Rul) (a : Option Addr) (len cap : Nat) (L : Nat → Int × Int) (w : World) (hr : r.ok) (hs : Sl w a len 2 isOp L) (hlen : len ≤ 300) :
    Calls Try.prog 4 #[.agg #[.int .i64 r.smax, .int .i64 r.bag, .int .i64 r.jit, .bool r.fr], .slice a len cap] w fun e w' => e = .returned (.bool true) ∧ Below w.heap.size w w' := by
  have HR := Aside.mk hr
  have HS := Aside.mk hs.ops
  obtain ⟨p0, p1⟩ := hr.per_le
  have j0 := hr.j0
  have j1 := hr.j1
  clear hr hs
  go_enter Try.func4, Try.ntmps4
  go_wp2_with fail
  have hba : Below w.heap.size w (w.alloc (.cells r.cells 23)) := (Below.refl _ _).alloc (Nat.le_refl _) _
  have hb : Blk (w.alloc (.cells r.cells 23)) w.heap.size 23 r.cells := Blk.new _ _ _
  change Calls _ _ _ (w.alloc (.cells r.cells 23)) _
  generalize w.alloc (.cells r.cells 23) = wa at hba hb ⊢
  have HA := Aside.mk hba
  have HC := Aside.mk hb
  clear hba hb
  refine (new_yes r _ HR.out).mono ?_
  rintro e w1 ⟨g, rfl, hg, hb, hu⟩
  have H0 := Aside.mk (At.new HR.out hb hu)
  have HG := Aside.mk hg
  clear hb hu hg
  go_wp2_with fail
  refine (credit_zero _ _ _ H0.out.blk H0.out.ok).mono ?_
  rintro e w2 ⟨rfl, rfl⟩
  rw [show (Acc.new r).left = r.full from rfl]
  go_wp2_with fail
  go_loopw [8, 9] (fun va i wr => ∃ (k : Nat) (s : Acc), k ≤ len ∧ i = .int .i64 k ∧ va = .int .i64 s.now ∧ Aside (At wa g wr s k ∧ s.r = r ∧ s.now ≤ 281474976710656)) (fun _ i _ => len - (intOf i).toNat)
  case atStart => exact ⟨0, _, by omega, rfl, rfl, H0.out, rfl, by simp [Acc.new]⟩
  case round =>
    clear H0
    obtain ⟨k, s, hk, rfl, rfl, HT⟩ := hrel
    by_cases hlt : k < len
    · obtain ⟨b, off, ha, hcell0, hcell1, hL0, hL1⟩ := HS.out k hlt
      subst ha
      have C0 := Aside.mk (below_cell HA.out hcell0)
      have hc0 := below_cell HT.out.1.below C0.out
      have hc1 := below_cell HT.out.1.below (below_cell HA.out hcell1)
      clear hcell0 hcell1
      by_cases hbig : 281474976710656 < (L k).1
      · go_wp2_with fail
        refine (awake_calls _).mono ?_
        rintro e w6 ⟨rfl, hu⟩
        have U6 := Aside.mk hu
        clear hu
        go_wp2
        go_ret
        exact ⟨rfl, below_then (below_then HA.out HA.out.size HT.out.1.below) (Nat.le_trans HA.out.size HT.out.1.below.size) U6.out⟩
      · have HBIG : Aside ((L k).1 ≤ 281474976710656) := ⟨by omega⟩
        go_wp2_with fail
        go_region_with (go_at_call 14; refine (take_at _ _ _ (HT.out.1.drew) HG.out (by omega)).mono ?_; rintro e w2 ⟨rfl, h⟩; have H2 := Aside.mk h; clear h)
        all_goals
          have hrr := Aside.mk ((s.take_cnt (L k).1 (L k).2).2.2.trans HT.out.2.1)
          have hc2 := below_cell H2.out.below C0.out
          cases hcc : counts (s.err (L k).1 (L k).2) with
          | false =>
            have E := Aside.mk (Acc.take_same hcc)
            have HF : Aside (At wa g w2 s (k + 1) ∧ s.r = r ∧ s.now ≤ 281474976710656) := ⟨by have h := H2.out; rw [E.out] at h; exact h, HT.out.2.1, HT.out.2.2⟩
            have hcs : s.err (L k).1 (L k).2 = 1 ∨ s.err (L k).1 (L k).2 = 24 := by
              rcases s.err_cases (L k).1 (L k).2 with he | he | he | he | he <;> rw [he] at hcc <;> simp [counts] at hcc <;> omega
            clear hcc
            rcases hcs with he | he
            all_goals
              rw [he]
              go_wp2
              go_roundw
              case rel => exact ⟨k + 1, s, by omega, by go_num, rfl, HF⟩
              case measure => simp [intOf]; omega
          | true =>
            have E := Aside.mk (Acc.take_now hcc)
            have HF : Aside (At wa g w2 (s.take (L k).1 (L k).2) (k + 1) ∧ (s.take (L k).1 (L k).2).r = r ∧ (s.take (L k).1 (L k).2).now ≤ 281474976710656) := ⟨H2.out, hrr.out, by rw [E.out.1]; exact HBIG.out⟩
            have hcs : s.err (L k).1 (L k).2 = 11 ∨ s.err (L k).1 (L k).2 = 26 ∨ s.err (L k).1 (L k).2 = 0 := by
              rcases s.err_cases (L k).1 (L k).2 with he | he | he | he | he <;> rw [he] at hcc <;> simp [counts] at hcc <;> omega
            clear hcc
            rcases hcs with he | he | he
            all_goals
              rw [he]
              go_wp2
              go_roundw
              case rel => exact ⟨k + 1, _, by omega, by go_num, congrArg (Value.int .i64) E.out.1.symm, HF⟩
              case measure => simp [intOf]; omega
    · have hk0 : Blk wr w.heap.size 23 r.cells := HC.out.below HT.out.1.below
      have c0 : wr.cell? ⟨w.heap.size, 0, none⟩ = some (.int .i64 r.smax) := hk0.cell 0
      have c1 : wr.cell? ⟨w.heap.size, 1, none⟩ = some (.int .i64 r.bag) := hk0.cell 1
      have c2 : wr.cell? ⟨w.heap.size, 2, none⟩ = some (.int .i64 r.jit) := hk0.cell 2
      have c3 : wr.cell? ⟨w.heap.size, 3, none⟩ = some (.bool r.fr) := hk0.cell 3
      have HK := Aside.mk hk0
      have hn0 := HT.out.1.ok.now0.1
      have hn1 := HT.out.2.2
      have hw1 : IntKind.i64.wrap (s.now + r.per) = s.now + r.per := IntWalk.i64_in _ (by omega)
      have hw2 : IntKind.i64.wrap (s.now + r.per + r.jit) = s.now + r.per + r.jit := IntWalk.i64_in _ (by omega)
      have RF := Aside.mk (rest_full HT.out.1.ok)
      have RE := Aside.mk (rest_err HT.out.1.ok HT.out.2.2)
      rw [HT.out.2.1] at RF RE
      clear hk0
      go_wp2_with fail
      go_region_with (first
        | (go_at_call 13; refine (plain_calls r _).mono ?_; rintro e w2 ⟨rfl, hu⟩; have HP := Aside.mk (HT.out.1.drew.then hu); have c2' := below_cell hu c2; have c3' := below_cell hu c3; clear hu)
        | (go_at_call 12; refine (refperiod_calls r _ HR.out).mono ?_; rintro e w3 ⟨rfl, hu⟩; have HQ := Aside.mk (HP.out.then hu); have c2'' := below_cell hu c2'; clear hu))
      all_goals
        clear c0 c1 c2 c3 c2' c3' hw1 hw2
        go_wp2_with fail
        refine (credit_calls _ s _ _ HQ.out.blk HQ.out.ok (by omega)).mono ?_
        rintro e w4 ⟨rfl, hu⟩
        rw [RF.out]
        have H4 := Aside.mk (HQ.out.then hu)
        have k0 : w4.cell? ⟨w.heap.size, 0, none⟩ = some (.int .i64 r.smax) := (HC.out.below H4.out.below).cell 0
        clear hu
        go_wp2_with fail
        refine (take_at _ _ _ H4.out HG.out (by omega)).mono ?_
        rintro e w5 ⟨rfl, h⟩
        rw [RE.out]
        have H5 := Aside.mk h
        clear h k0
        go_wp2_with fail
        refine (awake_calls _).mono ?_
        rintro e w6 ⟨rfl, hu⟩
        have U6 := Aside.mk hu
        clear hu
        go_wp2
        go_ret
        exact ⟨rfl, below_then (below_then HA.out HA.out.size H5.out.below) (Nat.le_trans HA.out.size H5.out.below.size) U6.out⟩
set_option maxRecDepth 100000 in
set_option maxHeartbeats 1000000 in
theorem policeRests_no (r : Rul) (a : Option Addr) (len cap : Nat) (w : World) (hr : r.mayB = false) :
    Calls Try.prog 4 #[.agg #[.int .i64 r.smax, .int .i64 r.bag, .int .i64 r.jit, .bool r.fr], .slice a len cap] w fun e w' => e = .returned (.bool true) ∧ Below w.heap.size w w' := by
  have HR := Aside.mk hr
  clear hr
  go_enter Try.func4, Try.ntmps4
  go_wp2_with fail
  have hba : Below w.heap.size w (w.alloc (.cells r.cells 23)) := (Below.refl _ _).alloc (Nat.le_refl _) _
  change Calls _ _ _ (w.alloc (.cells r.cells 23)) _
  generalize w.alloc (.cells r.cells 23) = wa at hba ⊢
  have HA := Aside.mk hba
  clear hba
  refine (new_no r _ HR.out).mono ?_
  rintro e w1 ⟨rfl, hu⟩
  have HU := Aside.mk hu
  clear hu
  go_wp2_with (go_at_call 11; refine (awake_calls _).mono ?_; rintro e w' ⟨rfl, hb⟩)
  go_ret
  exact ⟨rfl, below_then (below_then HA.out HA.out.size HU.out) (Nat.le_trans HA.out.size HU.out.size) (by assumption)⟩
set_option maxRecDepth 100000 in
set_option maxHeartbeats 1000000 in
theorem policeRests_out (r : Rul) (a : Option Addr) (len cap : Nat) (w : World) (hr : r.ok) (h : 300 < len) (hm : len ≤ 9223372036854775807) :
    Calls Try.prog 4 #[.agg #[.int .i64 r.smax, .int .i64 r.bag, .int .i64 r.jit, .bool r.fr], .slice a len cap] w fun e w' => e = .returned (.bool true) ∧ Below w.heap.size w w' := by
  have HR := Aside.mk hr
  clear hr
  go_enter Try.func4, Try.ntmps4
  go_wp2_with fail
  have hba : Below w.heap.size w (w.alloc (.cells r.cells 23)) := (Below.refl _ _).alloc (Nat.le_refl _) _
  change Calls _ _ _ (w.alloc (.cells r.cells 23)) _
  generalize w.alloc (.cells r.cells 23) = wa at hba ⊢
  have HA := Aside.mk hba
  clear hba
  refine (new_yes r _ HR.out).mono ?_
  rintro e w1 ⟨g, rfl, hg, hb, hu⟩
  have HU := Aside.mk hu
  clear hu hb hg
  go_wp2_with (go_at_call 11; refine (awake_calls _).mono ?_; rintro e w' ⟨rfl, hb⟩)
  go_ret
  exact ⟨rfl, below_then (below_then HA.out HA.out.size HU.out) (Nat.le_trans HA.out.size HU.out.size) (by assumption)⟩
theorem policeRests_walk (r : Rul) (a : Option Addr) (len cap : Nat) (L : Nat → Int × Int) (w : World) (_ : (-9223372036854775808 ≤ r.smax ∧ r.smax ≤ 9223372036854775807) ∧ (-9223372036854775808 ≤ r.bag ∧ r.bag ≤ 9223372036854775807) ∧ (-9223372036854775808 ≤ r.jit ∧ r.jit ≤ 9223372036854775807)) (hs : Sl w a len 2 isOp L) :
    Calls Try.prog 4 #[.agg #[.int .i64 r.smax, .int .i64 r.bag, .int .i64 r.jit, .bool r.fr], .slice a len cap] w fun e w' => e = .returned (.bool true) ∧ Below w.heap.size w w' := by
  have hm := hs.1
  unfold maxLen at hm
  cases hr : r.mayB with
  | false => exact policeRests_no r a len cap w hr
  | true =>
    by_cases h : 300 < len
    · exact policeRests_out r a len cap w (Rul.ok_of hr) h (by omega)
    · exact policeRests_yes r a len cap L w (Rul.ok_of hr) hs (by omega)
end Go.Proofs.Ytkckfghmdkeobaa
