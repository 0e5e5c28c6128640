/- RedundPlays: which frames go through, and what the others are, one behind the other. Conditions: those of the row. -/
import Derived.Test.YtdhgallfplbhpaaTwo
namespace Go.Proofs.Ytdhgallfplbhpaa
open Go.RowKit
set_option linter.unusedVariables false
def PlAny (w0 W : World) (g h n : Nat) : Prop := ∃ s, Two w0 W g h s n
set_option maxRecDepth 100000 in
set_option maxHeartbeats 8000000 in
theorem redundPlays_walk (k : Int) (a : Option Addr) (len cap : Nat) (L : Nat → OpV) (w : World) (h1 : -9223372036854775808 ≤ k ∧ k ≤ 9223372036854775807) (hs : Sl w a len 4 isOp L) :
    Calls Try.prog 6 #[.int .i64 k, .slice a len cap] w fun e w' => e = .returned (.bool true) ∧ Below w.heap.size w w' := by
  have HS := Aside.mk hs.ops
  have hm := hs.1
  unfold maxLen at hm
  clear h1 hs
  by_cases hk : 0 ≤ k ∧ k ≤ 1073741824
  case neg =>
    have HK := Aside.mk hk
    clear hk hm HS
    go_enter Try.func6, Try.ntmps6
    go_wp2_with (first
      | (go_at_call 9; refine (new_no _ _ HK.out).mono ?_; rintro e w' ⟨rfl, rfl⟩)
      | (go_at_call 17; refine (rnew_no _ _ HK.out).mono ?_; rintro e w' ⟨rfl, rfl⟩)
      | (go_at_call 10; refine (awake_calls _).mono ?_; rintro e w' ⟨rfl, hb⟩; have HB := Aside.mk hb; clear hb))
    go_ret
    exact ⟨rfl, HB.out⟩
  have HK := Aside.mk hk
  clear hk
  go_enter Try.func6, Try.ntmps6
  go_wp2_with fail
  refine (new_ok k _ HK.out).mono ?_
  rintro e w1 ⟨rfl, hh, hmi, hb⟩
  have H1 := Aside.mk (In.first HK.out hh hmi hb)
  have HMI := Aside.mk hmi
  clear hh hmi hb
  go_wp2_with fail
  refine (rnew_ok k _ HK.out).mono ?_
  rintro e w2 ⟨rfl, hh, hmi, hb⟩
  have HR : Aside (PlAny w w2 w.heap.size w1.heap.size 0) := ⟨⟨_, two_new HK.out H1.out HMI.out hh hmi hb⟩⟩
  clear hh hmi hb H1 HMI
  go_wp2_with fail
  go_loopw [9] (fun i wr => ∃ q : Nat, q ≤ len ∧ q ≤ 400 ∧ i = .int .i64 q ∧ Aside (PlAny w wr w.heap.size w1.heap.size q)) (fun i _ => len - (intOf i).toNat)
  case atStart => exact ⟨0, by omega, by omega, rfl, HR⟩
  case round =>
    clear HR
    obtain ⟨q, hq, hq4, rfl, HR⟩ := hrel
    by_cases hin : q < len ∧ q < 400
    · obtain ⟨hlt, hlt2⟩ := hin
      obtain ⟨b, off, ha, hcell0, hcell1, hcell2, hcell3⟩ := HS.out q hlt
      subst ha
      obtain ⟨s, hO⟩ := HR.out
      have HO := Aside.mk hO
      have hc0 := below_cell hO.i.below hcell0
      have hc1 := below_cell hO.i.below hcell1
      have hc2 := below_cell hO.i.below hcell2
      have hc3 := below_cell hO.i.below hcell3
      clear hO HR hcell0 hcell1 hcell2 hcell3
      generalize L q = o at *
      obtain ⟨vr, hvr⟩ : ∃ v, v = o.reset := ⟨_, rfl⟩
      rw [← hvr] at hc0
      clear hvr
      have hk0 : (0 : Int) ≤ q := by omega
      have hk1 : (q : Int) < len := by omega
      have hk2 : (q : Int) < 400 := by omega
      have hwk : IntKind.i64.wrap ((q : Int) + 1) = (q : Int) + 1 := IntWalk.i64_in _ (by omega)
      cases vr with
      | true =>
        have HT0 := Aside.mk (HO.out.next ((Below.refl _ _).alloc (Nat.le_refl _) (.cells #[.bool true, .int .i64 o.now, .int .i64 o.net, .int .i64 o.seq] 47)))
        go_wp2_with fail
        refine (reset_calls _ s _ HT0.out.i.held).mono ?_
        rintro e w4 ⟨rfl, hp⟩
        have HF := Aside.mk (HT0.out.move hp (reset_ok HT0.out.i.ok) ⟨HT0.out.i.up.t, HT0.out.i.up.w, HT0.out.i.up.o⟩)
        clear hp
        go_wp2_with fail
        refine (rreset_calls _ s _ HF.out.r).mono ?_
        rintro e wz ⟨rfl, hp⟩
        obtain ⟨s', hs'⟩ : ∃ s', s' = s.reset := ⟨_, rfl⟩
        have hz := (HF.out.ref hp List.Pairwise.nil).more (Nat.le_succ q)
        rw [← hs'] at hz
        have HZ := Aside.mk hz
        clear hp HF HT0 hz hs'
        have HL16 : Aside (∀ n, Calls Try.prog 16 #[.pointer (some ⟨w.heap.size, 0, none⟩)] (wz.drewN n) fun e w' => e = .returned (.int .i64 s'.l.length) ∧ w' = wz.drewN n) := ⟨fun n => by
          refine (held_calls _ s' _ (HZ.out.drewN n).i.held).mono ?_
          rintro e w' ⟨rfl, rfl⟩
          exact ⟨rfl, rfl⟩⟩
        have HL14 : Aside (∀ n, Calls Try.prog 14 #[.pointer (some ⟨w.heap.size, 0, none⟩)] (wz.drewN n) fun e w' => e = .returned (.int .i64 s'.thr) ∧ w' = wz.drewN n) := ⟨fun n => by
          refine (thr_calls _ s' _ (HZ.out.drewN n).i.held).mono ?_
          rintro e w' ⟨rfl, rfl⟩
          exact ⟨rfl, rfl⟩⟩
        have HL15 : Aside (∀ n, Calls Try.prog 15 #[.pointer (some ⟨w.heap.size, 0, none⟩)] (wz.drewN n) fun e w' => e = .returned (.int .i64 s'.twi) ∧ w' = wz.drewN n) := ⟨fun n => by
          refine (twi_calls _ s' _ (HZ.out.drewN n).i.held).mono ?_
          rintro e w' ⟨rfl, rfl⟩
          exact ⟨rfl, rfl⟩⟩
        have HL21 : Aside (∀ n, Calls Try.prog 21 #[.pointer (some ⟨w.heap.size, 0, none⟩)] (wz.drewN n) fun e w' => e = .returned (.int .i64 s'.old) ∧ w' = wz.drewN n) := ⟨fun n => by
          refine (old_calls _ s' _ (HZ.out.drewN n).i.held).mono ?_
          rintro e w' ⟨rfl, rfl⟩
          exact ⟨rfl, rfl⟩⟩
        obtain ⟨A, c, k0, _⟩ := HZ.out.r.slice
        have k3 := HZ.out.r.c3
        have k4 := HZ.out.r.c4
        have k5 := HZ.out.r.c5
        go_wp2_with fail
        go_quiet ((first | (go_at_call 16; exact Calls.quiet_of_same (HL16.out _)) | (go_at_call 14; exact Calls.quiet_of_same (HL14.out _)) | (go_at_call 15; exact Calls.quiet_of_same (HL15.out _)) | (go_at_call 21; exact Calls.quiet_of_same (HL21.out _))))
        have HN : Aside (PlAny w (wz.drewN nq) w.heap.size w1.heap.size (q + 1)) := ⟨⟨_, HZ.out.drewN nq⟩⟩
        go_wp2
        exact ⟨⟨q + 1, by omega, by omega, by simp, HN⟩, by simp [intOf]; omega⟩
      | false =>
        have HT0 := Aside.mk (HO.out.next ((Below.refl _ _).alloc (Nat.le_refl _) (.cells #[.bool false, .int .i64 o.now, .int .i64 o.net, .int .i64 o.seq] 47)))
        have HB0 := Aside.mk (Blk.new wr 47 #[.bool false, .int .i64 o.now, .int .i64 o.net, .int .i64 o.seq])
        have HT2 := Aside.mk (HT0.out.drewN 1)
        have HB2 : Aside (Blk ((wr.alloc (.cells #[.bool false, .int .i64 o.now, .int .i64 o.net, .int .i64 o.seq] 47)).drewN 1) wr.heap.size 47 #[.bool false, .int .i64 o.now, .int .i64 o.net, .int .i64 o.seq]) := ⟨HB0.out⟩
        have b1 : (wr.alloc (.cells #[.bool false, .int .i64 o.now, .int .i64 o.net, .int .i64 o.seq] 47)).cell? ⟨wr.heap.size, 1, none⟩ = some (.int .i64 o.now) := HB0.out.cell 1
        have b2 : (wr.alloc (.cells #[.bool false, .int .i64 o.now, .int .i64 o.net, .int .i64 o.seq] 47)).cell? ⟨wr.heap.size, 2, none⟩ = some (.int .i64 o.net) := HB0.out.cell 2
        have b3 : (wr.alloc (.cells #[.bool false, .int .i64 o.now, .int .i64 o.net, .int .i64 o.seq] 47)).cell? ⟨wr.heap.size, 3, none⟩ = some (.int .i64 o.seq) := HB0.out.cell 3
        go_wp2_with fail
        go_region_held3 (fun w' => w'.cell? ⟨wr.heap.size, 1, none⟩ = some (.int .i64 o.now) ∧ w'.cell? ⟨wr.heap.size, 2, none⟩ = some (.int .i64 o.net) ∧ w'.cell? ⟨wr.heap.size, 3, none⟩ = some (.int .i64 o.seq))
          (first
            | go_keep
            | exact ⟨HBZ.out.cell 1, HBZ.out.cell 2, HBZ.out.cell 3⟩
            | exact ⟨HBX.out.cell 1, HBX.out.cell 2, HBX.out.cell 3⟩)
          (first
            | (go_at_call 11; refine (take_calls _ s _ _ _ _ (by exact HT2.out.i.held) HT2.out.i.ok (HT2.out.i.up.cap (by omega))).mono ?_; rintro e w5 ⟨rfl, hp⟩; have HX1 := Aside.mk (HT2.out.move hp (take_ok HT2.out.i.ok _ _ _) (take_upto HT2.out.i.up _ _ _)); have HBX := Aside.mk (box_put HT2.out.i.held (by decide) (by decide) HB2.out hp); clear hp)
            | (go_at_call 20; refine (rtake_calls _ s _ _ _ _ HX1.out.r HT0.out.i.ok (HT0.out.i.up.cap (by omega)) HT0.out.so).mono ?_; rintro e wz ⟨rfl, hp⟩; have HZ0 := Aside.mk (HX1.out.ref hp (take_sorted HT0.out.i.ok HT0.out.so _ _ _)); have HBZ := Aside.mk (box_put HX1.out.r (by decide) (by decide) HBX.out hp); clear hp))
        all_goals
          obtain ⟨s', hs'⟩ : ∃ s', s' = (s.take o.now o.net o.seq).2 := ⟨_, rfl⟩
          have hz := HZ0.out
          rw [← hs'] at hz
          have HZ := Aside.mk hz
          clear HX1 HBX HZ0 HBZ HT0 HT2 HB0 HB2 hz hs' b1 b2 b3
          have HL16 : Aside (∀ n, Calls Try.prog 16 #[.pointer (some ⟨w.heap.size, 0, none⟩)] (wz.drewN n) fun e w' => e = .returned (.int .i64 s'.l.length) ∧ w' = wz.drewN n) := ⟨fun n => by
            refine (held_calls _ s' _ (HZ.out.drewN n).i.held).mono ?_
            rintro e w' ⟨rfl, rfl⟩
            exact ⟨rfl, rfl⟩⟩
          have HL14 : Aside (∀ n, Calls Try.prog 14 #[.pointer (some ⟨w.heap.size, 0, none⟩)] (wz.drewN n) fun e w' => e = .returned (.int .i64 s'.thr) ∧ w' = wz.drewN n) := ⟨fun n => by
            refine (thr_calls _ s' _ (HZ.out.drewN n).i.held).mono ?_
            rintro e w' ⟨rfl, rfl⟩
            exact ⟨rfl, rfl⟩⟩
          have HL15 : Aside (∀ n, Calls Try.prog 15 #[.pointer (some ⟨w.heap.size, 0, none⟩)] (wz.drewN n) fun e w' => e = .returned (.int .i64 s'.twi) ∧ w' = wz.drewN n) := ⟨fun n => by
            refine (twi_calls _ s' _ (HZ.out.drewN n).i.held).mono ?_
            rintro e w' ⟨rfl, rfl⟩
            exact ⟨rfl, rfl⟩⟩
          have HL21 : Aside (∀ n, Calls Try.prog 21 #[.pointer (some ⟨w.heap.size, 0, none⟩)] (wz.drewN n) fun e w' => e = .returned (.int .i64 s'.old) ∧ w' = wz.drewN n) := ⟨fun n => by
            refine (old_calls _ s' _ (HZ.out.drewN n).i.held).mono ?_
            rintro e w' ⟨rfl, rfl⟩
            exact ⟨rfl, rfl⟩⟩
          obtain ⟨A, c, k0, _⟩ := HZ.out.r.slice
          have k3 := HZ.out.r.c3
          have k4 := HZ.out.r.c4
          have k5 := HZ.out.r.c5
          go_wp2_with fail
          go_quiet ((first | (go_at_call 16; exact Calls.quiet_of_same (HL16.out _)) | (go_at_call 14; exact Calls.quiet_of_same (HL14.out _)) | (go_at_call 15; exact Calls.quiet_of_same (HL15.out _)) | (go_at_call 21; exact Calls.quiet_of_same (HL21.out _))))
          have HN : Aside (PlAny w (wz.drewN nq) w.heap.size w1.heap.size (q + 1)) := ⟨⟨_, HZ.out.drewN nq⟩⟩
          go_wp2
          exact ⟨⟨q + 1, by omega, by omega, by simp, HN⟩, by simp [intOf]; omega⟩
    · have hcase : (¬ (q : Int) < len) ∨ ((q : Int) < len ∧ ¬ (q : Int) < 400) := by omega
      clear hin
      obtain ⟨s, hO⟩ := HR.out
      have HO := Aside.mk hO
      clear hO HR
      rcases hcase with hk1 | ⟨hk1, hk2⟩
      all_goals
        go_wp2_with (go_at_call 10; refine (awake_calls _).mono ?_; rintro e w' ⟨rfl, hb⟩; have HB := Aside.mk hb; clear hb)
        go_ret
        exact ⟨rfl, below_then HO.out.i.below HO.out.i.below.size HB.out⟩
end Go.Proofs.Ytdhgallfplbhpaa
