/- RedundOnce: each frame goes through once, in order. Conditions: those of the row. -/
import Derived.Test.YtdhgallfplbhpaaOnr
namespace Go.Proofs.Ytdhgallfplbhpaa
open Go.RowKit Go.Proofs.YtdhgallfplbhpaaW.PrintWords
set_option linter.unusedVariables false
set_option maxRecDepth 100000 in
set_option maxHeartbeats 16000000 in
theorem redundOnce_walk (k : Int) (a : Option Addr) (len cap : Nat) (L : Nat → SntV) (w : World) (h1 : -9223372036854775808 ≤ k ∧ k ≤ 9223372036854775807) (hs : Sl w a len 3 isSnt L) :
    Calls Try.prog 4 #[.int .i64 k, .slice a len cap] w fun e w' => e = .returned (.bool true) ∧ Below w.heap.size w w' := by
  have HS := Aside.mk hs.snts
  have hm := hs.1
  unfold maxLen at hm
  clear h1 hs
  by_cases hk : 0 ≤ k ∧ k ≤ 1073741824
  case neg =>
    have HK := Aside.mk hk
    clear hk hm HS
    go_enter Try.func4, Try.ntmps4
    go_wp2_with (first
      | (go_at_call 9; refine (new_no _ _ HK.out).mono ?_; rintro e w' ⟨rfl, rfl⟩)
      | (go_at_call 10; refine (awake_calls _).mono ?_; rintro e w' ⟨rfl, hb⟩; have HB := Aside.mk hb; clear hb))
    go_ret
    exact ⟨rfl, HB.out⟩
  have HK := Aside.mk hk
  clear hk
  by_cases hbig : (100 : Int) < len
  · clear hm HS
    go_enter Try.func4, Try.ntmps4
    go_wp2_with fail
    refine (new_ok k _ HK.out).mono ?_
    rintro e w1 ⟨rfl, hh, hmi, hb⟩
    have H := Aside.mk (In.first HK.out hh hmi hb)
    clear hh hmi hb
    go_wp2_with (go_at_call 10; refine (awake_calls _).mono ?_; rintro e w' ⟨rfl, hb⟩; have HB := Aside.mk hb; clear hb)
    go_ret
    exact ⟨rfl, below_then H.out.below H.out.below.size HB.out⟩
  have hle : len ≤ 100 := by omega
  go_enter Try.func4, Try.ntmps4
  go_wp2_with fail
  refine (new_ok k _ HK.out).mono ?_
  rintro e w1 ⟨rfl, hh, hmi, hb⟩
  have HR : Aside (Ph1 w w1 (w1.alloc (.cells #[.int .i64 0] 3)) k L 0 (.slice none 0 0) (.slice (some ⟨w1.heap.size, 0, none⟩) 1 1)) := ⟨⟨In.first HK.out hh hmi hb, (Row.nil KC w1).next ((Below.refl _ _).alloc (Nat.le_refl _) _), row_first w1, fun j hj => absurd hj (by omega)⟩⟩
  clear hh hmi hb
  go_wp2_with fail
  generalize w1.alloc (.cells #[.int .i64 0] 3) = w2 at HR ⊢
  go_loopw [7, 8, 9, 10] (fun av nv sv i wr => ∃ q : Nat, q ≤ len ∧ i = .int .i64 q ∧ nv = .int .i64 (gsum L q) ∧ Aside (Ph1 w w1 wr k L q av sv)) (fun av nv sv i _ => len - (intOf i).toNat)
  case atStart => exact ⟨0, by omega, rfl, rfl, HR⟩
  case round =>
    clear HR
    obtain ⟨q, hq, rfl, rfl, HR⟩ := hrel
    by_cases hlt : q < len
    · obtain ⟨b, off, ha, hcell0, hcell1, hcell2⟩ := HS.out q hlt
      subst ha
      have HBW := Aside.mk HR.out.below
      have hc0 := below_cell HBW.out hcell0
      have hc1 := below_cell HBW.out hcell1
      have hc2 := below_cell HBW.out hcell2
      clear hcell0 hcell1 hcell2
      have hk0 : (0 : Int) ≤ q := by omega
      have hk1 : (q : Int) < len := by omega
      have hwk : IntKind.i64.wrap ((q : Int) + 1) = (q : Int) + 1 := IntWalk.i64_in _ (by omega)
      have HG := Aside.mk (gsum_bound HR.out.v)
      obtain ⟨gp, hgp⟩ : ∃ gp, gp = (L q).gap := ⟨_, rfl⟩
      obtain ⟨nt, hnt⟩ : ∃ nt, nt = (L q).net := ⟨_, rfl⟩
      obtain ⟨lt, hlt'⟩ : ∃ lt, lt = (L q).late := ⟨_, rfl⟩
      rw [← hgp] at hc0
      rw [← hnt] at hc1
      rw [← hlt'] at hc2
      have HGP := Aside.mk hgp
      have HNT := Aside.mk hnt
      have HLT := Aside.mk hlt'
      clear hgp hnt hlt'
      have hba := (Below.refl wr.heap.size wr).alloc (Nat.le_refl _) (.cells #[.int .i64 gp, .int .i64 nt, .int .i64 lt] 33)
      have H0 := Aside.mk (HR.out.next hba)
      have HB0 := Aside.mk (Blk.new wr 33 #[.int .i64 gp, .int .i64 nt, .int .i64 lt])
      clear hba
      have key : gp < 1 ∨ (¬ gp < 1 ∧ 1073741824 < gp) ∨ (¬ gp < 1 ∧ ¬ 1073741824 < gp ∧ nt < 0) ∨ (¬ gp < 1 ∧ ¬ 1073741824 < gp ∧ ¬ nt < 0 ∧ 1 < nt) ∨ (¬ gp < 1 ∧ ¬ 1073741824 < gp ∧ ¬ nt < 0 ∧ ¬ 1 < nt ∧ k < lt) ∨ (¬ gp < 1 ∧ ¬ 1073741824 < gp ∧ ¬ nt < 0 ∧ ¬ 1 < nt ∧ ¬ k < lt) := by omega
      rcases key with q1 | ⟨q1, q2⟩ | ⟨q1, q2, q3⟩ | ⟨q1, q2, q3, q4⟩ | ⟨q1, q2, q3, q4, q5⟩ | ⟨q1, q2, q3, q4, q5⟩
      rotate_right
      · have hG := HG.out
        have hw1 : IntKind.i64.wrap (gsum L q + gp) = gsum L q + gp := IntWalk.i64_in _ (by omega)
        have hkk := HK.out
        have HVAL : Aside (Valid L k (q + 1)) := ⟨fun j hj => by
          by_cases hjq : j < q
          · exact HR.out.v j hjq
          · have : j = q := by omega
            subst this
            rw [← HGP.out, ← HNT.out, ← HLT.out]
            omega⟩
        have EO : Aside ((sndOf L).orig q = ⟨nt, gsum L q + gp, q⟩) := ⟨by rw [HNT.out, HGP.out]; rfl⟩
        have EC : Aside ((sndOf L).copy q = ⟨1 - nt, gsum L q + gp + lt, q⟩) := ⟨by rw [HNT.out, HGP.out, HLT.out]; rfl⟩
        have hel := evl_len (sndOf L) q
        obtain ⟨A, c, hv, _⟩ := q_slice H0.out.a.q
        subst hv
        go_wp2_with fail
        refine (into_calls A c ((sndOf L).evl q) ⟨nt, gsum L q + gp, q⟩ _ H0.out.a.q (by omega)).mono ?_
        rintro e w5 ⟨v', rfl, hrow⟩
        rw [← EO.out] at hrow
        obtain ⟨l5, hl5⟩ : ∃ l5, l5 = ins ((sndOf L).orig q) ((sndOf L).evl q) := ⟨_, rfl⟩
        have hle5 : l5.length ≤ 2 * q + 1 := by rw [hl5, ins_length]; omega
        rw [← hl5] at hrow
        have HL5 := Aside.mk hl5
        clear hl5
        have HA := Aside.mk (hrow.since H0.out.a.below)
        have HS1 := Aside.mk (H0.out.s.next hrow.below)
        have HB5 : Aside (Blk w5 wr.heap.size 33 #[.int .i64 gp, .int .i64 nt, .int .i64 lt]) := ⟨(hrow.below.block _ HB0.out.lt).trans HB0.out⟩
        have d0 : w5.cell? ⟨wr.heap.size, 0, none⟩ = some (.int .i64 gp) := HB5.out.cell 0
        have d1 : w5.cell? ⟨wr.heap.size, 1, none⟩ = some (.int .i64 nt) := HB5.out.cell 1
        have d2 : w5.cell? ⟨wr.heap.size, 2, none⟩ = some (.int .i64 lt) := HB5.out.cell 2
        obtain ⟨A1, c1, hv, _⟩ := q_slice HA.out.q
        subst hv
        clear hrow hG
        by_cases hl0 : 0 ≤ lt
        · have hw2 : IntKind.i64.wrap (gsum L q + gp + lt) = gsum L q + gp + lt := IntWalk.i64_in _ (by have := HG.out; omega)
          have hw3 : IntKind.i64.wrap (1 - nt) = 1 - nt := IntWalk.i64_in _ (by omega)
          have HEV : Aside ((sndOf L).evl (q + 1) = ins ((sndOf L).copy q) (ins ((sndOf L).orig q) ((sndOf L).evl q))) := ⟨by
            show (if 0 ≤ (sndOf L).Lt q then _ else _) = _
            rw [if_pos (by show 0 ≤ (L q).late; rw [← HLT.out]; exact hl0)]⟩
          go_wp2_with fail
          refine (into_calls A1 c1 l5 ⟨1 - nt, gsum L q + gp + lt, q⟩ _ HA.out.q (by omega)).mono ?_
          rintro e w6 ⟨v2, rfl, hrow2⟩
          rw [← EC.out, HL5.out, ← HEV.out] at hrow2
          have HA2 := Aside.mk (hrow2.since HA.out.below)
          have HS2 := Aside.mk (HS1.out.next hrow2.below)
          clear hrow2 d0 d1 d2
          have hql : (sqs q).length = q + 1 := sqs_len q
          obtain ⟨b2, o2, c2, hv2, _, hr2⟩ := q_form HS2.out.q (by rw [hql]; omega)
          have sx : w6.cell? ⟨b2, o2 + q, none⟩ = some (.int .i64 (sq q)) := by
            have := hr2 (q * 1) _ (encs_get (K := KS) (sqs q) q _ (sqs_get (Nat.le_refl q)) 0 (by decide))
            rw [Nat.mul_one] at this
            exact this
          obtain ⟨A3, c3, A4, c4, w7, hv3, happ, hrow7, hfar⟩ := HS2.out.app2 ⟨sq (q + 1), 0, 0⟩ (by rw [hql]; omega)
          have HN : Aside (Ph1 w w1 w7 k L (q + 1) v2 (.slice A4 ((sqs q).length + 1) c4)) := ⟨HR.out.f, ⟨hrow7.below, q_move HA2.out.q fun b hb => hfar b (q_lt HA2.out.q b hb) (rows_apart HA2.out HS2.out (by decide) b hb), HA2.out.own⟩, hrow7, HVAL.out⟩
          rw [hql] at hv2 hv3 happ HN
          rw [hv2] at hv3
          injection hv3 with z1 _ z3
          subst z1
          subst z3
          have happ2 : (Builtin.append_ #[31, 31] 31 #[.slice (some ⟨b2, o2, none⟩) (q + 1) c2, .slice (some ⟨w6.heap.size, 0, none⟩) 1 1]).run Try.prog (w6.alloc (.cells #[.int .i64 (sq (q + 1))] 3)) = .ok (.slice A4 (q + 1 + 1) c4) w7 := happ
          subst hv2
          have hq1 : (q : Int) < ((q + 1 : Nat) : Int) := by omega
          clear hr2 happ hrow7 hfar hql
          go_wp2_with (first | (go_at_call 13; refine (rnext_calls _ _).mono ?_; rintro e w' ⟨rfl, rfl⟩; rw [sq_next]) | (at_builtin; refine Go.Lib.wpList_append_run _ rfl _ _ _ _ rfl _ _ rfl rfl _ _ happ2 ?_))
          exact ⟨⟨q + 1, by omega, by simp, by rw [HGP.out]; rfl, HN⟩, by simp [intOf]; omega⟩
        · have HEV : Aside ((sndOf L).evl (q + 1) = ins ((sndOf L).orig q) ((sndOf L).evl q)) := ⟨by
            show (if 0 ≤ (sndOf L).Lt q then _ else _) = _
            rw [if_neg (by show ¬ 0 ≤ (L q).late; rw [← HLT.out]; exact hl0)]⟩
          have HE5 : l5 = (sndOf L).evl (q + 1) := HL5.out.trans HEV.out.symm
          have ha2 := HA.out
          obtain ⟨n1, hn1⟩ : ∃ n1, n1 = l5.length := ⟨_, rfl⟩
          rw [← hn1] at ha2 ⊢
          rw [HE5] at ha2
          have HA2 := Aside.mk ha2
          have HS2 := HS1
          clear ha2 hn1 HE5
          have hql : (sqs q).length = q + 1 := sqs_len q
          obtain ⟨b2, o2, c2, hv2, _, hr2⟩ := q_form HS2.out.q (by rw [hql]; omega)
          have sx : w5.cell? ⟨b2, o2 + q, none⟩ = some (.int .i64 (sq q)) := by
            have := hr2 (q * 1) _ (encs_get (K := KS) (sqs q) q _ (sqs_get (Nat.le_refl q)) 0 (by decide))
            rw [Nat.mul_one] at this
            exact this
          obtain ⟨A3, c3, A4, c4, w7, hv3, happ, hrow7, hfar⟩ := HS2.out.app2 ⟨sq (q + 1), 0, 0⟩ (by rw [hql]; omega)
          have HN : Aside (Ph1 w w1 w7 k L (q + 1) (.slice A1 n1 c1) (.slice A4 ((sqs q).length + 1) c4)) := ⟨HR.out.f, ⟨hrow7.below, q_move HA2.out.q fun b hb => hfar b (q_lt HA2.out.q b hb) (rows_apart HA2.out HS2.out (by decide) b hb), HA2.out.own⟩, hrow7, HVAL.out⟩
          rw [hql] at hv2 hv3 happ HN
          rw [hv2] at hv3
          injection hv3 with z1 _ z3
          subst z1
          subst z3
          have happ2 : (Builtin.append_ #[31, 31] 31 #[.slice (some ⟨b2, o2, none⟩) (q + 1) c2, .slice (some ⟨w5.heap.size, 0, none⟩) 1 1]).run Try.prog (w5.alloc (.cells #[.int .i64 (sq (q + 1))] 3)) = .ok (.slice A4 (q + 1 + 1) c4) w7 := happ
          subst hv2
          have hq1 : (q : Int) < ((q + 1 : Nat) : Int) := by omega
          clear hr2 happ hrow7 hfar hql
          go_wp2_with (first | (go_at_call 13; refine (rnext_calls _ _).mono ?_; rintro e w' ⟨rfl, rfl⟩; rw [sq_next]) | (at_builtin; refine Go.Lib.wpList_append_run _ rfl _ _ _ _ rfl _ _ rfl rfl _ _ happ2 ?_))
          exact ⟨⟨q + 1, by omega, by simp, by rw [HGP.out]; rfl, HN⟩, by simp [intOf]; omega⟩
      all_goals
        go_wp2_with (go_at_call 10; refine (awake_calls _).mono ?_; rintro e w' ⟨rfl, hb⟩; have HB := Aside.mk hb; clear hb)
        go_ret
        exact ⟨rfl, below_then H0.out.below H0.out.below.size HB.out⟩
    · have hqn : q = len := by omega
      have hk1 : ¬ (q : Int) < len := by omega
      obtain ⟨n, hn⟩ : ∃ n, n = q := ⟨_, rfl⟩
      have hnl : n = len := by omega
      have hok := snd_ok HR.out.v (by omega)
      have hst := ph2_start HR.out (by omega)
      rw [← hn] at hok hst ⊢
      obtain ⟨A, c, hv, _⟩ := q_slice HR.out.a.q
      obtain ⟨A9, c9, hv9, _⟩ := q_slice HR.out.s.q
      rw [sqs_len, ← hn] at hv9
      obtain ⟨N, hN⟩ : ∃ N, N = n + 1 := ⟨_, rfl⟩
      rw [← hN] at hv9
      have HNN := Aside.mk hN
      clear hN
      rw [← hn] at hv
      obtain ⟨evs, hevs⟩ : ∃ evs, evs = (sndOf L).evl n := ⟨_, rfl⟩
      have hel := evl_len (sndOf L) n
      rw [← hevs] at hv hst hel
      obtain ⟨S, hS⟩ : ∃ S, S = sndOf L := ⟨_, rfl⟩
      rw [← hS] at hok hst
      subst hv
      subst hv9
      have HOK := Aside.mk hok
      have HP : Aside (PhAny w wr k S n evs (.slice A evs.length c) (.slice A9 N c9) 0 0) := ⟨hst⟩
      clear hok hst hevs hS HR HS hqn hn
      subst hnl
      go_wp2_with fail
      go_loopw [12, 13] (fun nx i wr => ∃ p m : Nat, p ≤ evs.length ∧ i = .int .i64 p ∧ nx = .int .i64 m ∧ Aside (PhAny w wr k S n evs (.slice A evs.length c) (.slice A9 N c9) p m)) (fun nx i _ => evs.length - (intOf i).toNat)
      case atStart => exact ⟨0, 0, by omega, rfl, rfl, HP⟩
      case round =>
        clear HP
        obtain ⟨p, m, hp, rfl, rfl, HP⟩ := hrel
        obtain ⟨C, t, s, hph⟩ := HP.out
        have H0 := Aside.mk hph
        clear hph HP
        by_cases hlt : p < evs.length
        · have he := List.getElem?_eq_getElem hlt
          have hdr := drop_at he
          have hpe : (p : Int) < evs.length := by omega
          have hp0 : (0 : Int) ≤ p := by omega
          have hwp : IntKind.i64.wrap ((p : Int) + 1) = (p : Int) + 1 := IntWalk.i64_in _ (by omega)
          have hwm : IntKind.i64.wrap ((m : Int) + 1) = (m : Int) + 1 := IntWalk.i64_in _ (by have := H0.out.m; omega)
          have hek := H0.out.e
          rw [hdr] at hek
          obtain ⟨ht, hcase⟩ := hek
          obtain ⟨e, hee⟩ : ∃ e, e = evs[p] := ⟨_, rfl⟩
          rw [← hee] at he ht hcase
          have HE := Aside.mk he
          clear he hdr hee
          rcases hcase with ⟨rfl, hmn, hrest⟩ | ⟨hj1, hj2, hL, hee, hC, hrest⟩
          · have R1 := Aside.mk (ost_orig H0.out.o HOK.out HK.out (by omega) hmn ht)
            have HRE := Aside.mk hrest
            have HMN := Aside.mk hmn
            clear ht hrest hmn
            have hl3 : ∀ W : World, True := fun _ => trivial
            clear hl3
            obtain ⟨b, off, hA, x0, x1, x2⟩ := come_read H0.out.qa HE.out
            subst hA
            obtain ⟨b9, o9, hA9, sx⟩ := num_read (j := m) H0.out.qs (by have := H0.out.m; omega) (by omega)
            subst hA9
            change wr.cell? ⟨b, off + p * 3, none⟩ = some (.int .i64 (S.T m)) at x0
            change wr.cell? ⟨b, off + p * 3 + 1, none⟩ = some (.int .i64 (S.N m)) at x1
            change wr.cell? ⟨b, off + p * 3 + 2, none⟩ = some (.int .i64 (m : Nat)) at x2
            have hi0 : (0 : Int) ≤ (m : Nat) := by omega
            have hi1 : ((m : Nat) : Int) < ((N : Nat) : Int) := by have := H0.out.m; have := HNN.out; omega
            have H1 := Aside.mk (H0.out.drewN 1)
            go_wp2_with fail
            go_region_held3 (fun w' => w'.cell? ⟨b, off + p * 3, none⟩ = some (.int .i64 (S.T m)) ∧ w'.cell? ⟨b, off + p * 3 + 1, none⟩ = some (.int .i64 (S.N m)) ∧ w'.cell? ⟨b, off + p * 3 + 2, none⟩ = some (.int .i64 (m : Nat)) ∧ w'.cell? ⟨b9, o9 + m, none⟩ = some (.int .i64 (m : Nat)))
              (first
                | go_keep
                | exact come_keep HQA.out HE.out HQS.out (by have := H0.out.m; omega) (by omega))
              (first
                | (go_at_call 11; refine (take_calls _ s _ _ _ _ (by exact H1.out.i.held) H1.out.i.ok (H1.out.i.up.cap (by omega))).mono ?_; rintro e w5 ⟨rfl, hp⟩; have HI5 := Aside.mk (H1.out.i.step hp (take_ok H1.out.i.ok _ _ _) (take_upto H1.out.i.up _ _ _)); have HQA := Aside.mk (q_keep H1.out.i.held hp H1.out.qa (by decide) (by decide)); have HQS := Aside.mk (q_keep H1.out.i.held hp H1.out.qs (by decide) (by decide)); clear hp; rw [R1.out.1]))
            all_goals
              obtain ⟨y0, y1, y2, _⟩ := come_keep HQA.out HE.out HQS.out (by have := H0.out.m; omega) (by omega)
              change w5.cell? ⟨b, off + p * 3 + 2, none⟩ = some (.int .i64 (m : Nat)) at y2
              have HN : Aside (PhAny w w5 k S n evs (.slice (some ⟨b, off, none⟩) evs.length c) (.slice (some ⟨b9, o9, none⟩) N c9) (p + 1) (m + 1)) := ⟨⟨_, _, _, HI5.out, HQA.out, HQS.out, R1.out.2, HRE.out, HMN.out⟩⟩
              clear y0 y1
              go_wp2
              exact ⟨⟨p + 1, (m + 1), by omega, by simp, by simp, HN⟩, by simp [intOf]; omega⟩
          · obtain ⟨j, hj⟩ : ∃ j, j = e.nets := ⟨_, rfl⟩
            rw [← hj] at hj1 hj2 hL hee hC hrest
            subst hee
            have R1 := Aside.mk (ost_copy H0.out.o HOK.out HK.out (by omega) H0.out.m hj1 hL hC ht)
            have HRE := Aside.mk hrest
            have HJ1 := Aside.mk hj1
            clear ht hrest hj1 hj hj2 hL hC
            have hl3 : ∀ W : World, True := fun _ => trivial
            clear hl3
            obtain ⟨b, off, hA, x0, x1, x2⟩ := come_read H0.out.qa HE.out
            subst hA
            obtain ⟨b9, o9, hA9, sx⟩ := num_read (j := j) H0.out.qs (by have := H0.out.m; have := HJ1.out; omega) (by omega)
            subst hA9
            change wr.cell? ⟨b, off + p * 3, none⟩ = some (.int .i64 (S.T j + S.Lt j)) at x0
            change wr.cell? ⟨b, off + p * 3 + 1, none⟩ = some (.int .i64 (1 - S.N j)) at x1
            change wr.cell? ⟨b, off + p * 3 + 2, none⟩ = some (.int .i64 (j : Nat)) at x2
            have hi0 : (0 : Int) ≤ (j : Nat) := by omega
            have hi1 : ((j : Nat) : Int) < ((N : Nat) : Int) := by have := H0.out.m; have := HNN.out; have := HJ1.out; omega
            have H1 := Aside.mk (H0.out.drewN 1)
            go_wp2_with fail
            go_region_held3 (fun w' => w'.cell? ⟨b, off + p * 3, none⟩ = some (.int .i64 (S.T j + S.Lt j)) ∧ w'.cell? ⟨b, off + p * 3 + 1, none⟩ = some (.int .i64 (1 - S.N j)) ∧ w'.cell? ⟨b, off + p * 3 + 2, none⟩ = some (.int .i64 (j : Nat)) ∧ w'.cell? ⟨b9, o9 + j, none⟩ = some (.int .i64 (j : Nat)))
              (first
                | go_keep
                | exact come_keep HQA.out HE.out HQS.out (by have := H0.out.m; have := HJ1.out; omega) (by omega))
              (first
                | (go_at_call 11; refine (take_calls _ s _ _ _ _ (by exact H1.out.i.held) H1.out.i.ok (H1.out.i.up.cap (by omega))).mono ?_; rintro e w5 ⟨rfl, hp⟩; have HI5 := Aside.mk (H1.out.i.step hp (take_ok H1.out.i.ok _ _ _) (take_upto H1.out.i.up _ _ _)); have HQA := Aside.mk (q_keep H1.out.i.held hp H1.out.qa (by decide) (by decide)); have HQS := Aside.mk (q_keep H1.out.i.held hp H1.out.qs (by decide) (by decide)); clear hp; rw [R1.out.1]))
            all_goals
              obtain ⟨y0, y1, y2, _⟩ := come_keep HQA.out HE.out HQS.out (by have := H0.out.m; have := HJ1.out; omega) (by omega)
              change w5.cell? ⟨b, off + p * 3 + 2, none⟩ = some (.int .i64 (j : Nat)) at y2
              have HN : Aside (PhAny w w5 k S n evs (.slice (some ⟨b, off, none⟩) evs.length c) (.slice (some ⟨b9, o9, none⟩) N c9) (p + 1) m) := ⟨⟨_, _, _, HI5.out, HQA.out, HQS.out, R1.out.2, HRE.out, H0.out.m⟩⟩
              clear y0 y1
              go_wp2
              exact ⟨⟨p + 1, m, by omega, by simp, by simp, HN⟩, by simp [intOf]; omega⟩
        · have hpe : ¬ (p : Int) < evs.length := by omega
          have hmn : m = n := by
            have := H0.out.e
            rw [List.drop_eq_nil_of_le (by omega)] at this
            exact this
          subst hmn
          have HTH : Aside (s.thr = m) := ⟨H0.out.o.thr⟩
          go_wp2_with (first
            | (go_at_call 14; refine (thr_calls _ s _ H0.out.i.held).mono ?_; rintro e w' ⟨rfl, rfl⟩; rw [HTH.out])
            | (go_at_call 10; refine (awake_calls _).mono ?_; rintro e w' ⟨rfl, hb⟩; have HB := Aside.mk hb; clear hb))
          go_ret
          exact ⟨rfl, below_then H0.out.i.below H0.out.i.below.size HB.out⟩
end Go.Proofs.Ytdhgallfplbhpaa
