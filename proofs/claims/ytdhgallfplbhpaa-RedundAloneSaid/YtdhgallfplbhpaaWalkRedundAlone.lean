/- RedundAlone: frames of one network alone, in order, all go through. Conditions: those of the row. -/
import Derived.Test.YtdhgallfplbhpaaAln
namespace Go.Proofs.Ytdhgallfplbhpaa
open Go.RowKit
set_option linter.unusedVariables false
/-- So many frames have come. -/
def AlAny (w0 W : World) (g : Nat) (k : Int) (i : Nat) : Prop := ∃ s lo n, In w0 W g s (2 * i) ∧ Aln s k i lo n
theorem In.more {w0 W : World} {g n m : Nat} {s : FS} (h : In w0 W g s n) (hm : n ≤ m) : In w0 W g s m :=
  ⟨h.held, h.below, h.mine, h.ok, ⟨⟨h.up.t.1, by have := h.up.t; omega⟩, ⟨h.up.w.1, by have := h.up.w; omega⟩, ⟨h.up.o.1, by have := h.up.o; omega⟩⟩⟩
set_option maxRecDepth 100000 in
set_option maxHeartbeats 4000000 in
theorem redundAlone_walk (k many : Int) (a : Option Addr) (len cap : Nat) (L : Nat → Bool) (w : World) (h1 : -9223372036854775808 ≤ k ∧ k ≤ 9223372036854775807) (h2 : -9223372036854775808 ≤ many ∧ many ≤ 9223372036854775807) (hs : Sl w a len 1 isBool L) :
    Calls Try.prog 5 #[.int .i64 k, .int .i64 many, .slice a len cap] w fun e w' => e = .returned (.bool true) ∧ Below w.heap.size w w' := by
  have HS := Aside.mk hs.bools
  have hm := hs.1
  unfold maxLen at hm
  clear h1 h2 hs
  by_cases hk : 0 ≤ k ∧ k ≤ 1073741824
  case neg =>
    have HK := Aside.mk hk
    clear hk hm HS
    go_enter Try.func5, Try.ntmps5
    go_wp2_with (first
      | (go_at_call 9; refine (new_no _ _ HK.out).mono ?_; rintro e w' ⟨rfl, rfl⟩)
      | (go_at_call 10; refine (awake_calls _).mono ?_; rintro e w' ⟨rfl, hb⟩; have HB := Aside.mk hb; clear hb))
    go_ret
    exact ⟨rfl, HB.out⟩
  have HK := Aside.mk hk
  clear hk
  have key : many < 0 ∨ (¬ many < 0 ∧ 600 < many) ∨ (¬ many < 0 ∧ ¬ 600 < many ∧ 100 < k) ∨ (¬ many < 0 ∧ ¬ 600 < many ∧ ¬ 100 < k) := by omega
  rcases key with q1 | ⟨q1, q2⟩ | ⟨q1, q2, q3⟩ | ⟨q1, q2, q3⟩
  rotate_right
  · have HK1 : Aside (0 ≤ k ∧ k ≤ 100) := ⟨by have := HK.out; omega⟩
    obtain ⟨m, rfl⟩ : ∃ m : Nat, many = m := ⟨many.toNat, by omega⟩
    have hm6 : m ≤ 600 := by omega
    have hwk1 : IntKind.i64.wrap (k + 1) = k + 1 := IntWalk.i64_in _ (by have := HK1.out; omega)
    go_enter Try.func5, Try.ntmps5
    go_wp2_with fail
    refine (new_ok k _ HK.out).mono ?_
    rintro e w1 ⟨rfl, hh, hmi, hb⟩
    have HR : Aside (AlAny w w1 w.heap.size k 0) := ⟨⟨_, 0, 0, In.first HK.out hh hmi hb, aln_fresh k HK1.out.1⟩⟩
    clear hh hmi hb
    go_wp2_with fail
    go_loopw [9, 10] (fun n i wr => ∃ q : Nat, q ≤ m ∧ i = .int .i64 q ∧ n = .int .i64 (sq q) ∧ Aside (AlAny w wr w.heap.size k q)) (fun n i _ => m - (intOf i).toNat)
    case atStart => exact ⟨0, by omega, rfl, rfl, HR⟩
    case round =>
      clear HR
      obtain ⟨q, hq, rfl, rfl, HR⟩ := hrel
      by_cases hlt : q < m
      · obtain ⟨s, lo, n, hi, ha⟩ := HR.out
        obtain ⟨r1, lo', n', r2, r3, r4, r5⟩ := aln_first ha HK1.out (by omega)
        have HI := Aside.mk hi
        have R1 := Aside.mk r1
        have R2 := Aside.mk r2
        have RA := Aside.mk (aln_again r2 HK1.out (by omega) r3 r4 r5)
        clear HR hi ha r1 r2 r3 r4 r5
        have hk1 : (q : Int) < m := by omega
        have hk0 : (0 : Int) ≤ q := by omega
        have hwk : IntKind.i64.wrap ((q : Int) + 1) = (q : Int) + 1 := IntWalk.i64_in _ (by omega)
        go_wp2_with fail
        refine (in_take HI.out (by omega) q 0 (sq q)).mono ?_
        rintro e w2 ⟨rfl, hp⟩
        rw [R1.out]
        have H2 := Aside.mk hp
        clear hp
        by_cases hlen : q < len
        · obtain ⟨b, off, ha, hcell⟩ := HS.out q hlen
          subst ha
          have hc := below_cell H2.out.below hcell
          have hl1 : (q : Int) < len := by omega
          clear hcell
          cases hag : L q with
          | true =>
            rw [hag] at hc
            go_wp2_with fail
            refine (in_take H2.out (by omega) q 0 (sq q)).mono ?_
            rintro e w3 ⟨rfl, hp⟩
            rw [RA.out.1]
            have HN : Aside (AlAny w w3 w.heap.size k (q + 1)) := ⟨⟨_, _, _, hp.more (by omega), RA.out.2⟩⟩
            clear hp
            go_wp2_with fail
            refine (rnext_calls _ _).mono ?_
            rintro e w4 ⟨rfl, rfl⟩
            rw [sq_next]
            go_wp2
            exact ⟨⟨q + 1, by omega, by simp, rfl, HN⟩, by simp [intOf]; omega⟩
          | false =>
            rw [hag] at hc
            have HN : Aside (AlAny w w2 w.heap.size k (q + 1)) := ⟨⟨_, _, _, H2.out.more (by omega), R2.out⟩⟩
            go_wp2_with fail
            refine (rnext_calls _ _).mono ?_
            rintro e w4 ⟨rfl, rfl⟩
            rw [sq_next]
            go_wp2
            exact ⟨⟨q + 1, by omega, by simp, rfl, HN⟩, by simp [intOf]; omega⟩
        · have hl1 : ¬ (q : Int) < len := by omega
          have HN : Aside (AlAny w w2 w.heap.size k (q + 1)) := ⟨⟨_, _, _, H2.out.more (by omega), R2.out⟩⟩
          go_wp2_with fail
          refine (rnext_calls _ _).mono ?_
          rintro e w4 ⟨rfl, rfl⟩
          rw [sq_next]
          go_wp2
          exact ⟨⟨q + 1, by omega, by simp, rfl, HN⟩, by simp [intOf]; omega⟩
      · have hqm : q = m := by omega
        subst hqm
        obtain ⟨s, lo, n, hi, ha⟩ := HR.out
        have HI := Aside.mk hi
        have HT : Aside (s.thr = q) := ⟨ha.thr⟩
        have HW : Aside (s.twi = 0) := ⟨ha.twi⟩
        have hn : (s.l.length : Int) ≤ k + 1 := by rw [ha.l, frs_len]; exact ha.n
        clear HR hi ha
        have hk1 : ¬ (q : Int) < q := by omega
        go_wp2_with (first
          | (go_at_call 14; refine (thr_calls _ s _ HI.out.held).mono ?_; rintro e w' ⟨rfl, rfl⟩; rw [HT.out])
          | (go_at_call 15; refine (twi_calls _ s _ HI.out.held).mono ?_; rintro e w' ⟨rfl, rfl⟩; rw [HW.out])
          | (go_at_call 16; refine (held_calls _ s _ HI.out.held).mono ?_; rintro e w' ⟨rfl, rfl⟩)
          | (go_at_call 10; refine (awake_calls _).mono ?_; rintro e w' ⟨rfl, hb⟩; have HB := Aside.mk hb; clear hb))
        go_ret
        exact ⟨rfl, below_then HI.out.below HI.out.below.size HB.out⟩
  all_goals
    go_enter Try.func5, Try.ntmps5
    go_wp2_with fail
    refine (new_ok k _ HK.out).mono ?_
    rintro e w1 ⟨rfl, hh, hmi, hb⟩
    have H := Aside.mk (In.first HK.out hh hmi hb)
    clear hh hmi hb
    go_wp2_with (go_at_call 10; refine (awake_calls _).mono ?_; rintro e w' ⟨rfl, hb⟩; have HB := Aside.mk hb; clear hb)
    go_ret
    exact ⟨rfl, below_then H.out.below H.out.below.size HB.out⟩
end Go.Proofs.Ytdhgallfplbhpaa
