/- The walk of BagSoon. Conditions: none. -/
import Derived.Test.YtoofekeenbllhaaAwake
namespace Go.Proofs.Ytoofekeenbllhaa
open Go.RowKit
set_option linter.unusedVariables false
theorem Sl.ints {w : World} {a : Option Addr} {len : Nat} {L : Nat → Int} (h : Sl w a len 1 isInt L) : ∀ k, k < len → ∃ b off, a = some ⟨b, off, none⟩ ∧ w.cell? ⟨b, off + k, none⟩ = some (.int .i64 (L k)) ∧ -9223372036854775808 ≤ L k ∧ L k ≤ 9223372036854775807 := by
  intro k hk
  obtain ⟨b, off, ha, hx⟩ := h.2 (by omega)
  obtain ⟨cs, hl, ⟨rfl, h1, h2⟩, hc⟩ := hx k hk
  have := hc 0 (by omega)
  simp at this
  exact ⟨b, off, ha, this, h1, h2⟩
/-- After some of the ticks: the state, and the tick of the last frame. -/
structure SoonRel (w : World) (g : Nat) (b : Int) (k : Nat) (wr : World) (s : Reg) (last : Int) : Prop where
  blk : Blk wr g 51 s.cells
  ok : s.ok
  hb : s.b = b
  seen : s.seen = s.at_
  lastIs : last = if s.went then s.at_ else -1
  le : s.at_ ≤ 281474976710656
  cnt : s.cnt ≤ k
  below : Below w.heap.size w wr
theorem SoonRel.more {w : World} {g : Nat} {b : Int} {k : Nat} {wr : World} {s : Reg} {last : Int} (h : SoonRel w g b k wr s last) : SoonRel w g b (k + 1) wr s last := ⟨h.blk, h.ok, h.hb, h.seen, h.lastIs, h.le, by have := h.cnt; omega, h.below⟩
theorem SoonRel.take {w : World} {g : Nat} {b : Int} {k : Nat} {wr w1 : World} {s : Reg} {last : Int} (h : SoonRel w g b k wr s last) (hg : w.heap.size ≤ g) {now : Int} (hn : now ≤ 281474976710656) (hb : Blk w1 g 51 (s.take now).cells) (hu : Upon (· = g) wr w1) : SoonRel w g b (k + 1) w1 (s.take now) (if s.err now = 0 then now else last) := by
  have hbl : Below w.heap.size w w1 := h.below.trans (Upon.below (B := w.heap.size) hu (by exact h.below.size) (fun i hi => by omega))
  have hc := h.cnt
  by_cases he : s.err now = 0
  · rw [if_pos he]
    refine ⟨hb, Reg.take_ok h.ok now, ?_, ?_, ?_, ?_, ?_, hbl⟩ <;> simp only [Reg.take, if_pos he]
    · exact h.hb
    · simp
    · exact hn
    · push_cast; omega
  · rw [if_neg he]
    have e : s.take now = s := by unfold Reg.take; rw [if_neg he]
    rw [e] at hb ⊢
    exact ⟨hb, h.ok, h.hb, h.seen, h.lastIs, h.le, by push_cast; omega, hbl⟩
theorem when_soon {s : Reg} {now : Int} (h : s.soon now = true) : s.when_ now = s.at_ + per s.b ∧ s.went = true ∧ now < s.at_ + per s.b := by
  unfold Reg.when_
  rw [h]
  unfold Reg.soon at h
  simp at h
  exact ⟨rfl, h.1, h.2⟩
theorem when_now {s : Reg} {now : Int} (h : s.soon now = false) : s.when_ now = now ∧ (s.went = true → s.at_ + per s.b ≤ now) := by
  unfold Reg.when_
  rw [h]
  unfold Reg.soon at h
  refine ⟨rfl, fun hw => ?_⟩
  rw [hw] at h
  simpa using h
theorem err_soon {s : Reg} {now : Int} (h0 : 0 ≤ now) (h1 : now ≤ 1125899906842624) (h2 : s.seen ≤ now) (h : s.soon now = true) : s.err now = 26 := by
  unfold Reg.err
  rw [if_neg (by omega), if_neg (by omega), if_pos h]
theorem err_goes {s : Reg} {now : Int} (h0 : 0 ≤ now) (h1 : now ≤ 1125899906842624) (h2 : s.seen ≤ now) (h : s.soon now = false) : s.err now = 0 := by
  unfold Reg.err
  rw [if_neg (by omega), if_neg (by omega), h]
  rfl
theorem soon_of {s : Reg} {now : Int} (hw : s.went = true) (h : now < s.at_ + per s.b) : s.soon now = true := by
  unfold Reg.soon
  rw [hw]
  simpa using h
theorem soon_not {s : Reg} {now : Int} (h : s.at_ + per s.b ≤ now) : s.soon now = false := by
  unfold Reg.soon
  simp; omega
theorem take_stays {s : Reg} {now : Int} (h : ¬ s.err now = 0) : s.take now = s := by unfold Reg.take; rw [if_neg h]
set_option maxRecDepth 100000 in
set_option maxHeartbeats 1000000 in
theorem bagSoon_yes (n : Int) (a : Option Addr) (len cap : Nat) (L : Nat → Int) (now : Int) (w : World) (hn : 0 ≤ n ∧ n ≤ 7) (hs : Sl w a len 1 isInt L) (hnow : 0 ≤ now ∧ now ≤ 281474976710656) :
    Calls Try.prog 4 #[.int .i64 n, .slice a len cap, .int .i64 now] w fun e w' => e = .returned (.bool true) ∧ Below w.heap.size w w' := by
  have HN := Aside.mk hn
  have HS := Aside.mk hs.ints
  have hm := hs.1
  unfold maxLen at hm
  clear hn hs
  obtain ⟨hn0, hn1⟩ := hnow
  go_enter Try.func4, Try.ntmps4
  go_wp2_with fail
  refine (new_yes _ _ HN.out).mono ?_
  rintro e w1 ⟨rfl, hb, hu⟩
  have HR : Aside (SoonRel w w.heap.size n 0 w1 (Reg.new n) (-1)) := ⟨⟨hb, Reg.new_ok HN.out, rfl, rfl, rfl, by simp [Reg.new], by simp [Reg.new], hu⟩⟩
  clear hb hu
  go_wp2_with fail
  go_loopw [9, 10] (fun v i wr => ∃ (k : Nat) (s : Reg) (last : Int), k ≤ len ∧ k ≤ 100 ∧ i = .int .i64 k ∧ v = .int .i64 last ∧ Aside (SoonRel w w.heap.size n k wr s last)) (fun _ i _ => len - (intOf i).toNat)
  case atStart => exact ⟨0, _, -1, by omega, by omega, rfl, rfl, HR⟩
  case round =>
    clear HR
    obtain ⟨k, s, last, hk, hk100, rfl, rfl, HR⟩ := hrel
    by_cases hlt : k < len
    · by_cases hlt2 : k < 100
      · obtain ⟨b, off, ha, hcell, hL0, hL1⟩ := HS.out k hlt
        subst ha
        have hcell' := below_cell HR.out.below hcell
        have HC := Aside.mk hcell
        clear hcell
        by_cases hbig : L k ≤ 281474976710656
        · go_wp2_with fail
          refine (take_calls _ _ _ _ HR.out.blk HR.out.ok (by have := HR.out.cnt; omega)).mono ?_
          rintro e w2 ⟨rfl, hb, hu⟩
          have HR2 := Aside.mk (HR.out.take (Nat.le_refl _) hbig hb hu)
          clear hb hu
          cases he : (s.err (L k) == 0) with
          | true =>
            have e0 : s.err (L k) = 0 := by simpa using he
            rw [e0, if_pos rfl] at HR2
            rw [e0]
            clear he e0 hcell'
            have hc2 := below_cell HR2.out.below HC.out
            go_wp2
            go_roundw
            case rel => exact ⟨k + 1, _, _, by omega, by omega, by go_num, rfl, HR2⟩
            case measure => simp [intOf]; omega
          | false =>
            have e0 : ¬ s.err (L k) = 0 := by simpa using he
            rw [if_neg e0] at HR2
            clear e0
            go_wp2
            go_roundw
            case rel => exact ⟨k + 1, _, _, by omega, by omega, by go_num, rfl, HR2⟩
            case measure => simp [intOf]; omega
        · go_wp2
          go_roundw
          case rel => exact ⟨k + 1, _, _, by omega, by omega, by go_num, rfl, ⟨HR.out.more⟩⟩
          case measure => simp [intOf]; omega
      · have HB := Aside.mk HR.out.below.size
        obtain ⟨p0, p1⟩ := per_le HR.out.ok.b0 HR.out.ok.b7
        have hle := HR.out.le
        have ha0 := HR.out.ok.atb.1
        have hla := HR.out.lastIs
        have hseen := HR.out.seen
        by_cases hpast : now < last
        · clear hla hseen
          go_wp2_with fail
          refine (awake_calls _).mono ?_
          rintro e w3 ⟨rfl, hu⟩
          have HU3 := Aside.mk hu
          clear hu
          go_wp2
          go_ret
          exact ⟨rfl, below_then HR.out.below HB.out HU3.out⟩
        cases hsoon : s.soon now with
        | true =>
          obtain ⟨e1, e2, e3⟩ := when_soon hsoon
          rw [e2, if_pos rfl] at hla
          have E1 := Aside.mk e1
          have S2 : Aside (s.err (s.at_ + per s.b - 1) = 26) := ⟨err_soon (by omega) (by omega) (by omega) (soon_of e2 (by omega))⟩
          have S3 : Aside (s.err (s.at_ + per s.b) = 0) := ⟨err_goes (by omega) (by omega) (by omega) (soon_not (by omega))⟩
          subst hla
          clear hseen hsoon e1 e2
          go_wp2_with fail
          refine (when_calls _ _ _ _ HR.out.blk HR.out.ok).mono ?_
          rintro e w3 ⟨rfl, nq, rfl⟩
          rw [E1.out]
          go_wp2_with fail
          refine (period_reg _ _ _ (HR.out.blk.drewN _) HR.out.ok).mono ?_
          rintro e w3 ⟨rfl, rfl⟩
          go_wp2_with fail
          refine (period_reg _ _ _ (HR.out.blk.drewN _) HR.out.ok).mono ?_
          rintro e w3 ⟨rfl, rfl⟩
          go_wp2_with fail
          refine (take_calls _ _ _ _ (HR.out.blk.drewN _) HR.out.ok (by have := HR.out.cnt; omega)).mono ?_
          rintro e w4 ⟨rfl, hb, hu⟩
          rw [take_stays (by rw [S2.out]; decide)] at hb
          rw [S2.out]
          have B4 := Aside.mk hb
          have U4 := Aside.mk hu
          clear hb hu
          go_wp2_with fail
          refine (take_calls _ _ _ _ B4.out HR.out.ok (by have := HR.out.cnt; omega)).mono ?_
          rintro e w5 ⟨rfl, hb, hu⟩
          rw [S3.out]
          have U5 := Aside.mk hu
          clear hb hu
          go_wp2_with fail
          refine (awake_calls _).mono ?_
          rintro e w6 ⟨rfl, hu⟩
          have U6 := Aside.mk hu
          clear hu
          go_wp2
          go_ret
          exact ⟨rfl, below_then ((below_drewN HR.out.below _).trans (Upon.below (B := w.heap.size) (U4.out.trans U5.out) HB.out (fun i hi => by omega))) (Nat.le_trans HB.out (U4.out.trans U5.out).size) U6.out⟩
        | false =>
          obtain ⟨e1, e2⟩ := when_now hsoon
          have E1 := Aside.mk e1
          have S3 : Aside (s.err now = 0) := ⟨err_goes (by omega) (by omega) (by cases hw : s.went <;> rw [hw] at hla <;> simp at hla <;> first | (have := HR.out.ok.at0 hw; omega) | omega) hsoon⟩
          cases hw : s.went with
          | true =>
            have e3 := e2 hw
            rw [hw, if_pos rfl] at hla
            subst hla
            clear hseen hsoon e1 e2 hw
            go_wp2_with fail
            refine (when_calls _ _ _ _ HR.out.blk HR.out.ok).mono ?_
            rintro e w3 ⟨rfl, nq, rfl⟩
            rw [E1.out]
            go_wp2_with fail
            refine (period_reg _ _ _ (HR.out.blk.drewN _) HR.out.ok).mono ?_
            rintro e w3 ⟨rfl, rfl⟩
            go_wp2_with fail
            refine (take_calls _ _ _ _ (HR.out.blk.drewN _) HR.out.ok (by have := HR.out.cnt; omega)).mono ?_
            rintro e w5 ⟨rfl, hb, hu⟩
            rw [S3.out]
            have U5 := Aside.mk hu
            clear hb hu
            go_wp2_with fail
            refine (awake_calls _).mono ?_
            rintro e w6 ⟨rfl, hu⟩
            have U6 := Aside.mk hu
            clear hu
            go_wp2
            go_ret
            exact ⟨rfl, below_then ((below_drewN HR.out.below _).trans (Upon.below (B := w.heap.size) U5.out HB.out (fun i hi => by omega))) (Nat.le_trans HB.out U5.out.size) U6.out⟩
          | false =>
            rw [hw] at hla
            simp at hla
            subst hla
            clear hseen hsoon e1 e2 hw
            go_wp2_with fail
            refine (when_calls _ _ _ _ HR.out.blk HR.out.ok).mono ?_
            rintro e w3 ⟨rfl, nq, rfl⟩
            rw [E1.out]
            go_wp2_with fail
            refine (take_calls _ _ _ _ (HR.out.blk.drewN _) HR.out.ok (by have := HR.out.cnt; omega)).mono ?_
            rintro e w5 ⟨rfl, hb, hu⟩
            rw [S3.out]
            have U5 := Aside.mk hu
            clear hb hu
            go_wp2_with fail
            refine (awake_calls _).mono ?_
            rintro e w6 ⟨rfl, hu⟩
            have U6 := Aside.mk hu
            clear hu
            go_wp2
            go_ret
            exact ⟨rfl, below_then ((below_drewN HR.out.below _).trans (Upon.below (B := w.heap.size) U5.out HB.out (fun i hi => by omega))) (Nat.le_trans HB.out U5.out.size) U6.out⟩
    · have HB := Aside.mk HR.out.below.size
      obtain ⟨p0, p1⟩ := per_le HR.out.ok.b0 HR.out.ok.b7
      have hle := HR.out.le
      have ha0 := HR.out.ok.atb.1
      have hla := HR.out.lastIs
      have hseen := HR.out.seen
      by_cases hpast : now < last
      · clear hla hseen
        go_wp2_with fail
        refine (awake_calls _).mono ?_
        rintro e w3 ⟨rfl, hu⟩
        have HU3 := Aside.mk hu
        clear hu
        go_wp2
        go_ret
        exact ⟨rfl, below_then HR.out.below HB.out HU3.out⟩
      cases hsoon : s.soon now with
      | true =>
        obtain ⟨e1, e2, e3⟩ := when_soon hsoon
        rw [e2, if_pos rfl] at hla
        have E1 := Aside.mk e1
        have S2 : Aside (s.err (s.at_ + per s.b - 1) = 26) := ⟨err_soon (by omega) (by omega) (by omega) (soon_of e2 (by omega))⟩
        have S3 : Aside (s.err (s.at_ + per s.b) = 0) := ⟨err_goes (by omega) (by omega) (by omega) (soon_not (by omega))⟩
        subst hla
        clear hseen hsoon e1 e2
        go_wp2_with fail
        refine (when_calls _ _ _ _ HR.out.blk HR.out.ok).mono ?_
        rintro e w3 ⟨rfl, nq, rfl⟩
        rw [E1.out]
        go_wp2_with fail
        refine (period_reg _ _ _ (HR.out.blk.drewN _) HR.out.ok).mono ?_
        rintro e w3 ⟨rfl, rfl⟩
        go_wp2_with fail
        refine (period_reg _ _ _ (HR.out.blk.drewN _) HR.out.ok).mono ?_
        rintro e w3 ⟨rfl, rfl⟩
        go_wp2_with fail
        refine (take_calls _ _ _ _ (HR.out.blk.drewN _) HR.out.ok (by have := HR.out.cnt; omega)).mono ?_
        rintro e w4 ⟨rfl, hb, hu⟩
        rw [take_stays (by rw [S2.out]; decide)] at hb
        rw [S2.out]
        have B4 := Aside.mk hb
        have U4 := Aside.mk hu
        clear hb hu
        go_wp2_with fail
        refine (take_calls _ _ _ _ B4.out HR.out.ok (by have := HR.out.cnt; omega)).mono ?_
        rintro e w5 ⟨rfl, hb, hu⟩
        rw [S3.out]
        have U5 := Aside.mk hu
        clear hb hu
        go_wp2_with fail
        refine (awake_calls _).mono ?_
        rintro e w6 ⟨rfl, hu⟩
        have U6 := Aside.mk hu
        clear hu
        go_wp2
        go_ret
        exact ⟨rfl, below_then ((below_drewN HR.out.below _).trans (Upon.below (B := w.heap.size) (U4.out.trans U5.out) HB.out (fun i hi => by omega))) (Nat.le_trans HB.out (U4.out.trans U5.out).size) U6.out⟩
      | false =>
        obtain ⟨e1, e2⟩ := when_now hsoon
        have E1 := Aside.mk e1
        have S3 : Aside (s.err now = 0) := ⟨err_goes (by omega) (by omega) (by cases hw : s.went <;> rw [hw] at hla <;> simp at hla <;> first | (have := HR.out.ok.at0 hw; omega) | omega) hsoon⟩
        cases hw : s.went with
        | true =>
          have e3 := e2 hw
          rw [hw, if_pos rfl] at hla
          subst hla
          clear hseen hsoon e1 e2 hw
          go_wp2_with fail
          refine (when_calls _ _ _ _ HR.out.blk HR.out.ok).mono ?_
          rintro e w3 ⟨rfl, nq, rfl⟩
          rw [E1.out]
          go_wp2_with fail
          refine (period_reg _ _ _ (HR.out.blk.drewN _) HR.out.ok).mono ?_
          rintro e w3 ⟨rfl, rfl⟩
          go_wp2_with fail
          refine (take_calls _ _ _ _ (HR.out.blk.drewN _) HR.out.ok (by have := HR.out.cnt; omega)).mono ?_
          rintro e w5 ⟨rfl, hb, hu⟩
          rw [S3.out]
          have U5 := Aside.mk hu
          clear hb hu
          go_wp2_with fail
          refine (awake_calls _).mono ?_
          rintro e w6 ⟨rfl, hu⟩
          have U6 := Aside.mk hu
          clear hu
          go_wp2
          go_ret
          exact ⟨rfl, below_then ((below_drewN HR.out.below _).trans (Upon.below (B := w.heap.size) U5.out HB.out (fun i hi => by omega))) (Nat.le_trans HB.out U5.out.size) U6.out⟩
        | false =>
          rw [hw] at hla
          simp at hla
          subst hla
          clear hseen hsoon e1 e2 hw
          go_wp2_with fail
          refine (when_calls _ _ _ _ HR.out.blk HR.out.ok).mono ?_
          rintro e w3 ⟨rfl, nq, rfl⟩
          rw [E1.out]
          go_wp2_with fail
          refine (take_calls _ _ _ _ (HR.out.blk.drewN _) HR.out.ok (by have := HR.out.cnt; omega)).mono ?_
          rintro e w5 ⟨rfl, hb, hu⟩
          rw [S3.out]
          have U5 := Aside.mk hu
          clear hb hu
          go_wp2_with fail
          refine (awake_calls _).mono ?_
          rintro e w6 ⟨rfl, hu⟩
          have U6 := Aside.mk hu
          clear hu
          go_wp2
          go_ret
          exact ⟨rfl, below_then ((below_drewN HR.out.below _).trans (Upon.below (B := w.heap.size) U5.out HB.out (fun i hi => by omega))) (Nat.le_trans HB.out U5.out.size) U6.out⟩
set_option maxRecDepth 100000 in
set_option maxHeartbeats 1000000 in
theorem bagSoon_no (n : Int) (a : Option Addr) (len cap : Nat) (now : Int) (w : World) (hn : ¬ (0 ≤ n ∧ n ≤ 7)) :
    Calls Try.prog 4 #[.int .i64 n, .slice a len cap, .int .i64 now] w fun e w' => e = .returned (.bool true) ∧ Below w.heap.size w w' := by
  have HN := Aside.mk hn
  clear hn
  go_enter Try.func4, Try.ntmps4
  go_wp2_with (first | (go_at_call 12; refine (new_no _ _ HN.out).mono ?_; rintro e w' ⟨rfl, rfl⟩) | (go_at_call 11; refine (awake_calls _).mono ?_; rintro e w' ⟨rfl, hb⟩))
  go_ret
  exact ⟨rfl, by assumption⟩
set_option maxRecDepth 100000 in
set_option maxHeartbeats 1000000 in
theorem bagSoon_out (n : Int) (a : Option Addr) (len cap : Nat) (now : Int) (w : World) (hn : 0 ≤ n ∧ n ≤ 7) (hnow : now < 0 ∨ 281474976710656 < now) :
    Calls Try.prog 4 #[.int .i64 n, .slice a len cap, .int .i64 now] w fun e w' => e = .returned (.bool true) ∧ Below w.heap.size w w' := by
  have HN := Aside.mk hn
  clear hn
  by_cases h : now < 0
  · clear hnow
    go_enter Try.func4, Try.ntmps4
    go_wp2_with fail
    refine (new_yes _ _ HN.out).mono ?_
    rintro e w1 ⟨rfl, hb, hu⟩
    have HU := Aside.mk hu
    clear hb hu
    go_wp2_with (go_at_call 11; refine (awake_calls _).mono ?_; rintro e w' ⟨rfl, hb⟩)
    go_ret
    exact ⟨rfl, below_then HU.out HU.out.size (by assumption)⟩
  · have h2 : 281474976710656 < now := by omega
    clear hnow
    go_enter Try.func4, Try.ntmps4
    go_wp2_with fail
    refine (new_yes _ _ HN.out).mono ?_
    rintro e w1 ⟨rfl, hb, hu⟩
    have HU := Aside.mk hu
    clear hb hu
    go_wp2_with (go_at_call 11; refine (awake_calls _).mono ?_; rintro e w' ⟨rfl, hb⟩)
    go_ret
    exact ⟨rfl, below_then HU.out HU.out.size (by assumption)⟩
theorem bagSoon_walk (n : Int) (a : Option Addr) (len cap : Nat) (L : Nat → Int) (now : Int) (w : World) (_ : -9223372036854775808 ≤ n ∧ n ≤ 9223372036854775807) (hs : Sl w a len 1 isInt L) (_ : -9223372036854775808 ≤ now ∧ now ≤ 9223372036854775807) :
    Calls Try.prog 4 #[.int .i64 n, .slice a len cap, .int .i64 now] w fun e w' => e = .returned (.bool true) ∧ Below w.heap.size w w' := by
  by_cases hn : 0 ≤ n ∧ n ≤ 7
  · by_cases h : now < 0 ∨ 281474976710656 < now
    · exact bagSoon_out n a len cap now w hn h
    · exact bagSoon_yes n a len cap L now w hn hs (by omega)
  · exact bagSoon_no n a len cap now w hn
end Go.Proofs.Ytoofekeenbllhaa
