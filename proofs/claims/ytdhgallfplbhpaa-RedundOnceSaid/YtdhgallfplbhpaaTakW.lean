/- Take: the walk. Conditions: the filter lies; its counts are small. -/
import Derived.Test.YtdhgallfplbhpaaTak
namespace Go.Proofs.Ytdhgallfplbhpaa
open Go.RowKit Go.Proofs.YtdhgallfplbhpaaW.PrintWords
attribute [local go_sem] max2_int max_two
set_option linter.unusedVariables false

/-- One frame goes behind the list. -/
theorem Held.app {K : Kd} {w : World} {g : Nat} {s : FS} (H : Held K w g s) (f : Fr) (hsz : s.l.length + 1 ≤ 5000) :
    ∃ A c A' c' w1, w.cell? ⟨g, 0, none⟩ = some (.slice A s.l.length c) ∧ (Builtin.append_ #[K.S, K.S] K.S #[.slice A s.l.length c, .slice (some ⟨w.heap.size, 0, none⟩) 1 1]).run Try.prog (w.alloc (.cells (K.enc f).toArray K.E)) = .ok (.slice A' (s.l.length + 1) c') w1 ∧
      w1.cell? ⟨g, 0, none⟩ = some (.slice A s.l.length c) ∧ w1.frozen? ⟨g, 0, none⟩ = false ∧ PutPost K w g { s with l := s.l ++ [f] } (w1.setCell ⟨g, 0, none⟩ (.slice A' (s.l.length + 1) c')) := by
  obtain ⟨v, hb, hq⟩ := H
  obtain ⟨i, hi, hz⟩ := Option.map_eq_some_iff.1 K.info
  simp only [Prod.mk.injEq] at hz
  obtain ⟨A, c, rfl, hc⟩ := q_slice hq
  have hb0 : Blk (w.alloc (.cells (K.enc f).toArray K.E)) g K.T _ := Blk.alloc (w := w) hb _
  have hq0 : QRow (w.alloc (.cells (K.enc f).toArray K.E)) 0 K.E K.sz (.slice A s.l.length c) s.l.length (K.encs s.l) := q_move hq fun k hk => heap_alloc_old w _ (q_lt hq k hk)
  have hsrc : SrcV (w.alloc (.cells (K.enc f).toArray K.E)) (some ⟨w.heap.size, 0, none⟩) (K.encs [f]) := fun _ => ⟨_, rfl, by
    have := World.news_of_block (cs := (K.enc f).toArray) (t := K.E) (fr := (0, 0)) (heap_alloc_new w (.cells (K.enc f).toArray K.E))
    simpa [Kd.encs] using this⟩
  obtain ⟨A', c', w1, happ, hq1, hg, hat⟩ := run_app _ K.S K.E K.S i K.zero K.sz K.bytes K.under hi hz.1 hz.2.1 hz.2.2 K.zsz K.pos K.small (.slice A s.l.length c) s.l.length (K.encs s.l) hq0 (some ⟨w.heap.size, 0, none⟩) 1 1 (K.encs [f]) (by rw [encs_length]; rfl) hsrc (encs_one _) hsz
  have hne : (Value.slice A s.l.length c).ownBlock ≠ some g := Held.ne hb hq
  have hb1 : Blk w1 g K.T _ := blk_grown hg hb0 hne
  refine ⟨A, c, A', c', w1, hb.cell 0, happ, hb1.cell 0, hb1.frozen 0, ?_⟩
  have hb2 := hb1.set 0 (.slice A' (s.l.length + 1) c')
  have hsz2 : (w.alloc (.cells (K.enc f).toArray K.E)).heap.size = w.heap.size + 1 := by simp
  have hg2 : w.grownBy w1 (Value.slice A s.l.length c).ownBlock := ⟨hg.os, hg.tape, hg.output, by have := hg.size; omega, fun k hk hne => (hg.block k (by omega) hne).trans (heap_alloc_old w _ hk)⟩
  have hlen : (s.l ++ [f]).length = s.l.length + 1 := by simp
  refine put (s' := { s with l := s.l ++ [f] }) hb hq (w1 := w1) (by rw [hlen, encs_append]; exact hq1) hg2 (fun b hb => ?_) hb2 ((Upon.refl (· = g) w1).setg (g := g) rfl _ _)
  rcases hat with h1 | ⟨b', h1, h2⟩
  · left; rw [← h1]; exact hb
  · right; rw [hb] at h1; injection h1 with h1; subst h1; omega
theorem Held.setOld {K : Kd} {w : World} {g : Nat} {s : FS} (H : Held K w g s) (x : Int) : PutPost K w g { s with old := x } (w.setCell ⟨g, 5, none⟩ (.int .i64 x)) := by
  obtain ⟨v, hb, hq⟩ := H
  exact put_same hb hq (s' := { s with old := x }) rfl (hb.set 5 (.int .i64 x)) ((Upon.refl (· = g) w).setg (g := g) rfl _ _)
theorem Held.setTwi {K : Kd} {w : World} {g : Nat} {s : FS} (H : Held K w g s) (x : Int) : PutPost K w g { s with twi := x } (w.setCell ⟨g, 4, none⟩ (.int .i64 x)) := by
  obtain ⟨v, hb, hq⟩ := H
  exact put_same hb hq (s' := { s with twi := x }) rfl (hb.set 4 (.int .i64 x)) ((Upon.refl (· = g) w).setg (g := g) rfl _ _)
theorem Held.setThr {K : Kd} {w : World} {g : Nat} {s : FS} (H : Held K w g s) (x : Int) : PutPost K w g { s with thr := x } (w.setCell ⟨g, 3, none⟩ (.int .i64 x)) := by
  obtain ⟨v, hb, hq⟩ := H
  exact put_same hb hq (s' := { s with thr := x }) rfl (hb.set 3 (.int .i64 x)) ((Upon.refl (· = g) w).setg (g := g) rfl _ _)
structure FS.cap (s : FS) : Prop where
  t : 0 ≤ s.thr ∧ s.thr ≤ 1125899906842624
  w : 0 ≤ s.twi ∧ s.twi ≤ 1125899906842624
  o : 0 ≤ s.old ∧ s.old ≤ 1125899906842624
theorem take_nil (now net seq : Int) (w : World) : Calls Try.prog 11 #[.pointer none, .int .i64 now, .int .i64 net, .int .i64 seq] w fun e w' => e = .returned (.int .i64 2) ∧ w = w' := by
  go_enter Try.func11, Try.ntmps11
  go_wp2_with fail
  refine (timely_nil _ _ _ _).mono ?_
  rintro e w' ⟨rfl, rfl⟩
  go_wp2
  go_ret
  exact ⟨rfl, rfl⟩
set_option maxHeartbeats 4000000 in
theorem take_calls (g : Nat) (s : FS) (now net seq : Int) (w : World) (H : Held KI w g s) (ok : s.ok) (cap : s.cap) :
    Calls Try.prog 11 #[.pointer (some ⟨g, 0, none⟩), .int .i64 now, .int .i64 net, .int .i64 seq] w fun e w' => e = .returned (.int .i64 (s.take now net seq).1) ∧ PutPost KI w g (s.take now net seq).2 w' := by
  have HH := Aside.mk H
  have HO := Aside.mk ok
  have HC := Aside.mk cap
  clear H ok cap
  by_cases ht : s.timely now net seq = 0
  case neg =>
    have HT : Aside (s.take now net seq = (s.timely now net seq, s)) := ⟨by unfold FS.take; rw [if_neg ht]⟩
    rw [HT.out]
    go_enter Try.func11, Try.ntmps11
    go_wp2_with fail
    refine (timely_calls _ s _ _ _ _ HH.out).mono ?_
    rintro e w' ⟨rfl, rfl⟩
    go_wp2
    go_ret
    exact ⟨rfl, HH.out.refl⟩
  obtain ⟨hnow, hnet, hseq, hle⟩ := timely_ok ht
  have HT : Aside (s.take now net seq = (s.forget now).judge now net seq) := ⟨by unfold FS.take; rw [if_pos ht]⟩
  rw [HT.out]
  have HTI := Aside.mk ht
  have OK2 := Aside.mk (forget_ok HO.out hle hnow.2)
  have HC2 : Aside (s.forget now).cap := ⟨⟨HC.out.t, HC.out.w, HC.out.o⟩⟩
  have HNW := Aside.mk hnow
  have HSQ := Aside.mk hseq
  have HTK : Aside (∀ f ∈ s.l, 0 ≤ f.tick ∧ f.tick ≤ 1125899906842624) := ⟨fun f hf => ⟨(HO.out.l f hf).2.1, by have := (HO.out.l f hf).2.2.1; have := HO.out.n1; omega⟩⟩
  have HNX : Aside ((s.forget now).now = now) := ⟨rfl⟩
  obtain ⟨s1, hs1⟩ : ∃ s1, s1 = s.forget now := ⟨_, rfl⟩
  rw [← hs1] at OK2 HC2 HNX ⊢
  have HS1 := Aside.mk hs1
  clear ht hnow hseq hle HT hs1
  go_enter Try.func11, Try.ntmps11
  go_wp2_with fail
  refine (timely_calls _ s _ _ _ _ HH.out).mono ?_
  rintro e w' ⟨rfl, rfl⟩
  rw [HTI.out]
  go_wp2_with fail
  refine (forget_calls _ s _ _ HH.out HNW.out HTK.out).mono ?_
  rintro e w1 ⟨rfl, hp⟩
  rw [← HS1.out] at hp
  have H1 := Aside.mk hp
  clear hp HO HC HTI HTK HS1
  go_wp2_with fail
  refine (copied_calls _ s1 _ _ _ H1.out.1 hnet (fun f hf => (OK2.out.l f hf).1) (by have := OK2.out.len; omega)).mono ?_
  rintro e w2 (⟨rfl, k, f, hk, hs, hh, hpre, hp⟩ | ⟨hno, (⟨rfl, hex⟩ | ⟨rfl, hne⟩), hp⟩)
  · have HJ : Aside (s1.judge now net seq = (21, { s1 with l := s1.l.set k { f with nets := 3 }, twi := s1.twi + 1 })) := ⟨by unfold FS.judge; rw [twiced_some hk hs hh hpre]⟩
    have H2 := Aside.mk hp
    have c4 : w2.cell? ⟨g, 4, none⟩ = some (.int .i64 s1.twi) := H2.out.1.c4
    have f4 := H2.out.1.frozen 4
    have hw : IntKind.i64.wrap (s1.twi + 1) = s1.twi + 1 := IntWalk.i64_in _ (by have := HC2.out.w; omega)
    clear hp hk hs hh hpre
    go_wp2
    go_ret
    exact ⟨by rw [HJ.out]; rfl, by rw [HJ.out]; exact (H1.out.trans H2.out).trans (H2.out.1.setTwi (s1.twi + 1))⟩
  · have HJ : Aside (s1.judge now net seq = (25, { s1 with old := s1.old + 1 })) := ⟨by unfold FS.judge; rw [twiced_none hno]; simp only; rw [if_pos hex]⟩
    have H2 := Aside.mk hp
    have c5 : w2.cell? ⟨g, 5, none⟩ = some (.int .i64 s1.old) := H2.out.1.c5
    have f5 := H2.out.1.frozen 5
    have hw : IntKind.i64.wrap (s1.old + 1) = s1.old + 1 := IntWalk.i64_in _ (by have := HC2.out.o; omega)
    clear hp hno hex
    go_wp2
    go_ret
    exact ⟨by rw [HJ.out]; rfl, by rw [HJ.out]; exact (H1.out.trans H2.out).trans (H2.out.1.setOld (s1.old + 1))⟩
  · have H2 := Aside.mk hp
    by_cases hps : seq ≠ 0 ∧ s1.passed seq = true
    · have HJ : Aside (s1.judge now net seq = (28, { s1 with old := s1.old + 1 })) := ⟨by unfold FS.judge; rw [twiced_none hno]; simp only; rw [if_neg (fun ⟨f, h1, h2⟩ => hne f h1 h2), if_pos hps]⟩
      obtain ⟨hs0, hp1⟩ := hps
      have HP1 := Aside.mk hp1
      have hw : IntKind.i64.wrap (s1.old + 1) = s1.old + 1 := IntWalk.i64_in _ (by have := HC2.out.o; omega)
      clear hp hno hne hp1
      go_wp2_with fail
      refine (passed_calls _ s1 _ _ H2.out.1 (by have := OK2.out.len; omega)).mono ?_
      rintro e w3 ⟨rfl, hb⟩
      rw [HP1.out]
      have H3 := Aside.mk (H2.out.trans (H2.out.1.below hb))
      have c5 : w3.cell? ⟨g, 5, none⟩ = some (.int .i64 s1.old) := H3.out.1.c5
      have f5 := H3.out.1.frozen 5
      clear hb
      go_wp2
      go_ret
      exact ⟨by rw [HJ.out]; rfl, by rw [HJ.out]; exact (H1.out.trans H3.out).trans (H3.out.1.setOld (s1.old + 1))⟩
    · have HJ : Aside (s1.judge now net seq = (0, s1.put now net seq)) := ⟨by unfold FS.judge; rw [twiced_none hno]; simp only; rw [if_neg (fun ⟨f, h1, h2⟩ => hne f h1 h2), if_neg hps]⟩
      have HPS := Aside.mk hps
      clear hp hno hne hps
      by_cases hs0 : seq = 0
      · have H3 := Aside.mk (H1.out.trans H2.out)
        subst hs0
        rcases hnet with rfl | rfl
        · obtain ⟨A, c, A', c', w4, h0, happ, h1, hf, hpost⟩ := H3.out.1.app ⟨0, now, 1⟩ (by have := OK2.out.len; omega)
          obtain ⟨N, hN⟩ : ∃ N, N = s1.l.length + 1 := ⟨_, rfl⟩
          rw [← hN] at happ hpost
          have happ2 : (Builtin.append_ #[52, 52] 52 #[.slice A s1.l.length c, .slice (some ⟨w2.heap.size, 0, none⟩) 1 1]).run Try.prog (w2.alloc (.cells #[.int .i64 0, .int .i64 now, .int .u64 1] 60)) = .ok (.slice A' N c') w4 := happ
          have HP : Aside (PutPost KI w g { s1 with l := s1.l ++ [⟨0, now, 1⟩] } (w4.setCell ⟨g, 0, none⟩ (.slice A' N c'))) := ⟨H3.out.trans hpost⟩
          have HN := Aside.mk hN
          clear happ hpost hN
          go_wp2_with (at_builtin; refine Go.Lib.wpList_append_run _ rfl _ _ _ _ rfl _ _ rfl rfl _ _ happ2 ?_)
          generalize hW5 : w4.setCell ⟨g, 0, none⟩ (.slice A' N c') = w5 at HP ⊢
          have k0 : w5.cell? ⟨g, 0, none⟩ = some (.slice A' N c') := by rw [← hW5]; exact World.cell?_setCell_same' _ _ _ (by rw [h1]; rfl)
          have kf := HP.out.1.frozen 0
          have hw3 : IntKind.i64.wrap (s1.thr + 1) = s1.thr + 1 := IntWalk.i64_in _ (by have := HC2.out.t; omega)
          have hlen : (s1.l ++ [Fr.mk 0 now 1]).length = N := by rw [List.length_append, HN.out]; rfl
          have hNle : N ≤ 257 := by have := HN.out; have := OK2.out.len; omega
          have HLEN := Aside.mk hlen
          clear h0 h1 hf happ2 hW5 hlen
          rcases (show N < 256 ∨ N = 256 ∨ N = 257 by omega) with hb1 | hb1 | hb1
          · obtain ⟨A2, hcut, hnn, hp2⟩ := HP.out.1.cut (k := 0) (by show 0 ≤ (s1.l ++ [Fr.mk 0 now 1]).length; rw [HLEN.out]; omega) k0
            simp only [HLEN.out] at hcut hp2
            have hcut2 : ∀ W : World, (Instr.slice 52 (.slice A' N c') (some (.int .i64 0)) none none).run Try.prog W = .ok (.slice A2 (N - 0) (c' - 0)) W := hcut
            have HP2 : Aside (PutPost KI w g { s1 with l := (s1.l ++ [Fr.mk 0 now 1]).drop 0 } (w5.setCell ⟨g, 0, none⟩ (.slice A2 (N - 0) (c' - 0)))) := ⟨HP.out.trans hp2⟩
            have HCA : Aside (cutAt s1.l.length = 0) := ⟨by unfold cutAt; have := HN.out; omega⟩
            have hx : (N : Int) - 256 < 0 := by omega
            have hw : IntKind.i64.wrap ((N : Int) - 256) = (N : Int) - 256 := IntWalk.i64_in _ (by omega)
            clear hcut hp2 hnn
            go_region
            all_goals
              change Exit.then _ _ _ _ (w5.drew.setCell ⟨g, 0, none⟩ (.slice A2 (N - 0) (c' - 0)))
              have H6 : Aside (PutPost KI w g { s1 with l := (s1.l ++ [Fr.mk 0 now 1]).drop 0 } (w5.drew.setCell ⟨g, 0, none⟩ (.slice A2 (N - 0) (c' - 0)))) := ⟨HP2.out.drewN 1⟩
              generalize w5.drew.setCell ⟨g, 0, none⟩ (.slice A2 (N - 0) (c' - 0)) = w6 at H6 ⊢
              have c3 : w6.cell? ⟨g, 3, none⟩ = some (.int .i64 s1.thr) := H6.out.1.c3
              have f3 := H6.out.1.frozen 3
              go_wp2
              go_ret
              exact ⟨by rw [HJ.out]; rfl, by rw [HJ.out]; show PutPost KI w g (FS.put s1 now 0 0) _; unfold FS.put; rw [HCA.out]; exact H6.out.trans (H6.out.1.setThr (s1.thr + 1))⟩
          · subst hb1
            obtain ⟨A2, hcut, hnn, hp2⟩ := HP.out.1.cut (k := 0) (by show 0 ≤ (s1.l ++ [Fr.mk 0 now 1]).length; rw [HLEN.out]; omega) k0
            simp only [HLEN.out] at hcut hp2
            have hcut2 : ∀ W : World, (Instr.slice 52 (.slice A' 256 c') (some (.int .i64 0)) none none).run Try.prog W = .ok (.slice A2 (256 - 0) (c' - 0)) W := hcut
            have HP2 : Aside (PutPost KI w g { s1 with l := (s1.l ++ [Fr.mk 0 now 1]).drop 0 } (w5.setCell ⟨g, 0, none⟩ (.slice A2 (256 - 0) (c' - 0)))) := ⟨HP.out.trans hp2⟩
            have HCA : Aside (cutAt s1.l.length = 0) := ⟨by unfold cutAt; have := HN.out; omega⟩
            clear hcut hp2 hnn
            go_region
            all_goals
              change Exit.then _ _ _ _ (w5.drew.setCell ⟨g, 0, none⟩ (.slice A2 (256 - 0) (c' - 0)))
              have H6 : Aside (PutPost KI w g { s1 with l := (s1.l ++ [Fr.mk 0 now 1]).drop 0 } (w5.drew.setCell ⟨g, 0, none⟩ (.slice A2 (256 - 0) (c' - 0)))) := ⟨HP2.out.drewN 1⟩
              generalize w5.drew.setCell ⟨g, 0, none⟩ (.slice A2 (256 - 0) (c' - 0)) = w6 at H6 ⊢
              have c3 : w6.cell? ⟨g, 3, none⟩ = some (.int .i64 s1.thr) := H6.out.1.c3
              have f3 := H6.out.1.frozen 3
              go_wp2
              go_ret
              exact ⟨by rw [HJ.out]; rfl, by rw [HJ.out]; show PutPost KI w g (FS.put s1 now 0 0) _; unfold FS.put; rw [HCA.out]; exact H6.out.trans (H6.out.1.setThr (s1.thr + 1))⟩
          · subst hb1
            obtain ⟨A2, hcut, hnn, hp2⟩ := HP.out.1.cut (k := 1) (by show 1 ≤ (s1.l ++ [Fr.mk 0 now 1]).length; rw [HLEN.out]; omega) k0
            simp only [HLEN.out] at hcut hp2
            have hcut2 : ∀ W : World, (Instr.slice 52 (.slice A' 257 c') (some (.int .i64 1)) none none).run Try.prog W = .ok (.slice A2 (257 - 1) (c' - 1)) W := hcut
            have HP2 : Aside (PutPost KI w g { s1 with l := (s1.l ++ [Fr.mk 0 now 1]).drop 1 } (w5.setCell ⟨g, 0, none⟩ (.slice A2 (257 - 1) (c' - 1)))) := ⟨HP.out.trans hp2⟩
            have HCA : Aside (cutAt s1.l.length = 1) := ⟨by unfold cutAt; have := HN.out; omega⟩
            clear hcut hp2 hnn
            go_region
            all_goals
              change Exit.then _ _ _ _ (w5.drew.setCell ⟨g, 0, none⟩ (.slice A2 (257 - 1) (c' - 1)))
              have H6 : Aside (PutPost KI w g { s1 with l := (s1.l ++ [Fr.mk 0 now 1]).drop 1 } (w5.drew.setCell ⟨g, 0, none⟩ (.slice A2 (257 - 1) (c' - 1)))) := ⟨HP2.out.drewN 1⟩
              generalize w5.drew.setCell ⟨g, 0, none⟩ (.slice A2 (257 - 1) (c' - 1)) = w6 at H6 ⊢
              have c3 : w6.cell? ⟨g, 3, none⟩ = some (.int .i64 s1.thr) := H6.out.1.c3
              have f3 := H6.out.1.frozen 3
              go_wp2
              go_ret
              exact ⟨by rw [HJ.out]; rfl, by rw [HJ.out]; show PutPost KI w g (FS.put s1 now 0 0) _; unfold FS.put; rw [HCA.out]; exact H6.out.trans (H6.out.1.setThr (s1.thr + 1))⟩
        · obtain ⟨A, c, A', c', w4, h0, happ, h1, hf, hpost⟩ := H3.out.1.app ⟨0, now, 2⟩ (by have := OK2.out.len; omega)
          obtain ⟨N, hN⟩ : ∃ N, N = s1.l.length + 1 := ⟨_, rfl⟩
          rw [← hN] at happ hpost
          have happ2 : (Builtin.append_ #[52, 52] 52 #[.slice A s1.l.length c, .slice (some ⟨w2.heap.size, 0, none⟩) 1 1]).run Try.prog (w2.alloc (.cells #[.int .i64 0, .int .i64 now, .int .u64 2] 60)) = .ok (.slice A' N c') w4 := happ
          have HP : Aside (PutPost KI w g { s1 with l := s1.l ++ [⟨0, now, 2⟩] } (w4.setCell ⟨g, 0, none⟩ (.slice A' N c'))) := ⟨H3.out.trans hpost⟩
          have HN := Aside.mk hN
          clear happ hpost hN
          go_wp2_with (at_builtin; refine Go.Lib.wpList_append_run _ rfl _ _ _ _ rfl _ _ rfl rfl _ _ happ2 ?_)
          generalize hW5 : w4.setCell ⟨g, 0, none⟩ (.slice A' N c') = w5 at HP ⊢
          have k0 : w5.cell? ⟨g, 0, none⟩ = some (.slice A' N c') := by rw [← hW5]; exact World.cell?_setCell_same' _ _ _ (by rw [h1]; rfl)
          have kf := HP.out.1.frozen 0
          have hw3 : IntKind.i64.wrap (s1.thr + 1) = s1.thr + 1 := IntWalk.i64_in _ (by have := HC2.out.t; omega)
          have hlen : (s1.l ++ [Fr.mk 0 now 2]).length = N := by rw [List.length_append, HN.out]; rfl
          have hNle : N ≤ 257 := by have := HN.out; have := OK2.out.len; omega
          have HLEN := Aside.mk hlen
          clear h0 h1 hf happ2 hW5 hlen
          rcases (show N < 256 ∨ N = 256 ∨ N = 257 by omega) with hb1 | hb1 | hb1
          · obtain ⟨A2, hcut, hnn, hp2⟩ := HP.out.1.cut (k := 0) (by show 0 ≤ (s1.l ++ [Fr.mk 0 now 2]).length; rw [HLEN.out]; omega) k0
            simp only [HLEN.out] at hcut hp2
            have hcut2 : ∀ W : World, (Instr.slice 52 (.slice A' N c') (some (.int .i64 0)) none none).run Try.prog W = .ok (.slice A2 (N - 0) (c' - 0)) W := hcut
            have HP2 : Aside (PutPost KI w g { s1 with l := (s1.l ++ [Fr.mk 0 now 2]).drop 0 } (w5.setCell ⟨g, 0, none⟩ (.slice A2 (N - 0) (c' - 0)))) := ⟨HP.out.trans hp2⟩
            have HCA : Aside (cutAt s1.l.length = 0) := ⟨by unfold cutAt; have := HN.out; omega⟩
            have hx : (N : Int) - 256 < 0 := by omega
            have hw : IntKind.i64.wrap ((N : Int) - 256) = (N : Int) - 256 := IntWalk.i64_in _ (by omega)
            clear hcut hp2 hnn
            go_region
            all_goals
              change Exit.then _ _ _ _ (w5.drew.setCell ⟨g, 0, none⟩ (.slice A2 (N - 0) (c' - 0)))
              have H6 : Aside (PutPost KI w g { s1 with l := (s1.l ++ [Fr.mk 0 now 2]).drop 0 } (w5.drew.setCell ⟨g, 0, none⟩ (.slice A2 (N - 0) (c' - 0)))) := ⟨HP2.out.drewN 1⟩
              generalize w5.drew.setCell ⟨g, 0, none⟩ (.slice A2 (N - 0) (c' - 0)) = w6 at H6 ⊢
              have c3 : w6.cell? ⟨g, 3, none⟩ = some (.int .i64 s1.thr) := H6.out.1.c3
              have f3 := H6.out.1.frozen 3
              go_wp2
              go_ret
              exact ⟨by rw [HJ.out]; rfl, by rw [HJ.out]; show PutPost KI w g (FS.put s1 now 1 0) _; unfold FS.put; rw [HCA.out]; exact H6.out.trans (H6.out.1.setThr (s1.thr + 1))⟩
          · subst hb1
            obtain ⟨A2, hcut, hnn, hp2⟩ := HP.out.1.cut (k := 0) (by show 0 ≤ (s1.l ++ [Fr.mk 0 now 2]).length; rw [HLEN.out]; omega) k0
            simp only [HLEN.out] at hcut hp2
            have hcut2 : ∀ W : World, (Instr.slice 52 (.slice A' 256 c') (some (.int .i64 0)) none none).run Try.prog W = .ok (.slice A2 (256 - 0) (c' - 0)) W := hcut
            have HP2 : Aside (PutPost KI w g { s1 with l := (s1.l ++ [Fr.mk 0 now 2]).drop 0 } (w5.setCell ⟨g, 0, none⟩ (.slice A2 (256 - 0) (c' - 0)))) := ⟨HP.out.trans hp2⟩
            have HCA : Aside (cutAt s1.l.length = 0) := ⟨by unfold cutAt; have := HN.out; omega⟩
            clear hcut hp2 hnn
            go_region
            all_goals
              change Exit.then _ _ _ _ (w5.drew.setCell ⟨g, 0, none⟩ (.slice A2 (256 - 0) (c' - 0)))
              have H6 : Aside (PutPost KI w g { s1 with l := (s1.l ++ [Fr.mk 0 now 2]).drop 0 } (w5.drew.setCell ⟨g, 0, none⟩ (.slice A2 (256 - 0) (c' - 0)))) := ⟨HP2.out.drewN 1⟩
              generalize w5.drew.setCell ⟨g, 0, none⟩ (.slice A2 (256 - 0) (c' - 0)) = w6 at H6 ⊢
              have c3 : w6.cell? ⟨g, 3, none⟩ = some (.int .i64 s1.thr) := H6.out.1.c3
              have f3 := H6.out.1.frozen 3
              go_wp2
              go_ret
              exact ⟨by rw [HJ.out]; rfl, by rw [HJ.out]; show PutPost KI w g (FS.put s1 now 1 0) _; unfold FS.put; rw [HCA.out]; exact H6.out.trans (H6.out.1.setThr (s1.thr + 1))⟩
          · subst hb1
            obtain ⟨A2, hcut, hnn, hp2⟩ := HP.out.1.cut (k := 1) (by show 1 ≤ (s1.l ++ [Fr.mk 0 now 2]).length; rw [HLEN.out]; omega) k0
            simp only [HLEN.out] at hcut hp2
            have hcut2 : ∀ W : World, (Instr.slice 52 (.slice A' 257 c') (some (.int .i64 1)) none none).run Try.prog W = .ok (.slice A2 (257 - 1) (c' - 1)) W := hcut
            have HP2 : Aside (PutPost KI w g { s1 with l := (s1.l ++ [Fr.mk 0 now 2]).drop 1 } (w5.setCell ⟨g, 0, none⟩ (.slice A2 (257 - 1) (c' - 1)))) := ⟨HP.out.trans hp2⟩
            have HCA : Aside (cutAt s1.l.length = 1) := ⟨by unfold cutAt; have := HN.out; omega⟩
            clear hcut hp2 hnn
            go_region
            all_goals
              change Exit.then _ _ _ _ (w5.drew.setCell ⟨g, 0, none⟩ (.slice A2 (257 - 1) (c' - 1)))
              have H6 : Aside (PutPost KI w g { s1 with l := (s1.l ++ [Fr.mk 0 now 2]).drop 1 } (w5.drew.setCell ⟨g, 0, none⟩ (.slice A2 (257 - 1) (c' - 1)))) := ⟨HP2.out.drewN 1⟩
              generalize w5.drew.setCell ⟨g, 0, none⟩ (.slice A2 (257 - 1) (c' - 1)) = w6 at H6 ⊢
              have c3 : w6.cell? ⟨g, 3, none⟩ = some (.int .i64 s1.thr) := H6.out.1.c3
              have f3 := H6.out.1.frozen 3
              go_wp2
              go_ret
              exact ⟨by rw [HJ.out]; rfl, by rw [HJ.out]; show PutPost KI w g (FS.put s1 now 1 0) _; unfold FS.put; rw [HCA.out]; exact H6.out.trans (H6.out.1.setThr (s1.thr + 1))⟩
      · have HP0 : Aside (s1.passed seq = false) := ⟨by
          have := HPS.out
          cases h : s1.passed seq with
          | false => rfl
          | true => exact absurd ⟨hs0, h⟩ this⟩
        rcases hnet with rfl | rfl
        · go_wp2_with fail
          refine (passed_calls _ s1 _ _ H2.out.1 (by have := OK2.out.len; omega)).mono ?_
          rintro e w3 ⟨rfl, hb⟩
          rw [HP0.out]
          have H3 := Aside.mk (H1.out.trans (H2.out.trans (H2.out.1.below hb)))
          clear hb
          obtain ⟨A, c, A', c', w4, h0, happ, h1, hf, hpost⟩ := H3.out.1.app ⟨seq, now, 1⟩ (by have := OK2.out.len; omega)
          obtain ⟨N, hN⟩ : ∃ N, N = s1.l.length + 1 := ⟨_, rfl⟩
          rw [← hN] at happ hpost
          have happ2 : (Builtin.append_ #[52, 52] 52 #[.slice A s1.l.length c, .slice (some ⟨w3.heap.size, 0, none⟩) 1 1]).run Try.prog (w3.alloc (.cells #[.int .i64 seq, .int .i64 now, .int .u64 1] 60)) = .ok (.slice A' N c') w4 := happ
          have HP : Aside (PutPost KI w g { s1 with l := s1.l ++ [⟨seq, now, 1⟩] } (w4.setCell ⟨g, 0, none⟩ (.slice A' N c'))) := ⟨H3.out.trans hpost⟩
          have HN := Aside.mk hN
          clear happ hpost hN
          go_wp2_with (at_builtin; refine Go.Lib.wpList_append_run _ rfl _ _ _ _ rfl _ _ rfl rfl _ _ happ2 ?_)
          generalize hW5 : w4.setCell ⟨g, 0, none⟩ (.slice A' N c') = w5 at HP ⊢
          have k0 : w5.cell? ⟨g, 0, none⟩ = some (.slice A' N c') := by rw [← hW5]; exact World.cell?_setCell_same' _ _ _ (by rw [h1]; rfl)
          have kf := HP.out.1.frozen 0
          have hw3 : IntKind.i64.wrap (s1.thr + 1) = s1.thr + 1 := IntWalk.i64_in _ (by have := HC2.out.t; omega)
          have hlen : (s1.l ++ [Fr.mk seq now 1]).length = N := by rw [List.length_append, HN.out]; rfl
          have hNle : N ≤ 257 := by have := HN.out; have := OK2.out.len; omega
          have HLEN := Aside.mk hlen
          clear h0 h1 hf happ2 hW5 hlen
          rcases (show N < 256 ∨ N = 256 ∨ N = 257 by omega) with hb1 | hb1 | hb1
          · obtain ⟨A2, hcut, hnn, hp2⟩ := HP.out.1.cut (k := 0) (by show 0 ≤ (s1.l ++ [Fr.mk seq now 1]).length; rw [HLEN.out]; omega) k0
            simp only [HLEN.out] at hcut hp2
            have hcut2 : ∀ W : World, (Instr.slice 52 (.slice A' N c') (some (.int .i64 0)) none none).run Try.prog W = .ok (.slice A2 (N - 0) (c' - 0)) W := hcut
            have HP2 : Aside (PutPost KI w g { s1 with l := (s1.l ++ [Fr.mk seq now 1]).drop 0 } (w5.setCell ⟨g, 0, none⟩ (.slice A2 (N - 0) (c' - 0)))) := ⟨HP.out.trans hp2⟩
            have HCA : Aside (cutAt s1.l.length = 0) := ⟨by unfold cutAt; have := HN.out; omega⟩
            have hx : (N : Int) - 256 < 0 := by omega
            have hw : IntKind.i64.wrap ((N : Int) - 256) = (N : Int) - 256 := IntWalk.i64_in _ (by omega)
            clear hcut hp2 hnn
            go_region
            all_goals
              change Exit.then _ _ _ _ (w5.drew.setCell ⟨g, 0, none⟩ (.slice A2 (N - 0) (c' - 0)))
              have H6 : Aside (PutPost KI w g { s1 with l := (s1.l ++ [Fr.mk seq now 1]).drop 0 } (w5.drew.setCell ⟨g, 0, none⟩ (.slice A2 (N - 0) (c' - 0)))) := ⟨HP2.out.drewN 1⟩
              generalize w5.drew.setCell ⟨g, 0, none⟩ (.slice A2 (N - 0) (c' - 0)) = w6 at H6 ⊢
              have c3 : w6.cell? ⟨g, 3, none⟩ = some (.int .i64 s1.thr) := H6.out.1.c3
              have f3 := H6.out.1.frozen 3
              go_wp2
              go_ret
              exact ⟨by rw [HJ.out]; rfl, by rw [HJ.out]; show PutPost KI w g (FS.put s1 now 0 seq) _; unfold FS.put; rw [HCA.out]; exact H6.out.trans (H6.out.1.setThr (s1.thr + 1))⟩
          · subst hb1
            obtain ⟨A2, hcut, hnn, hp2⟩ := HP.out.1.cut (k := 0) (by show 0 ≤ (s1.l ++ [Fr.mk seq now 1]).length; rw [HLEN.out]; omega) k0
            simp only [HLEN.out] at hcut hp2
            have hcut2 : ∀ W : World, (Instr.slice 52 (.slice A' 256 c') (some (.int .i64 0)) none none).run Try.prog W = .ok (.slice A2 (256 - 0) (c' - 0)) W := hcut
            have HP2 : Aside (PutPost KI w g { s1 with l := (s1.l ++ [Fr.mk seq now 1]).drop 0 } (w5.setCell ⟨g, 0, none⟩ (.slice A2 (256 - 0) (c' - 0)))) := ⟨HP.out.trans hp2⟩
            have HCA : Aside (cutAt s1.l.length = 0) := ⟨by unfold cutAt; have := HN.out; omega⟩
            clear hcut hp2 hnn
            go_region
            all_goals
              change Exit.then _ _ _ _ (w5.drew.setCell ⟨g, 0, none⟩ (.slice A2 (256 - 0) (c' - 0)))
              have H6 : Aside (PutPost KI w g { s1 with l := (s1.l ++ [Fr.mk seq now 1]).drop 0 } (w5.drew.setCell ⟨g, 0, none⟩ (.slice A2 (256 - 0) (c' - 0)))) := ⟨HP2.out.drewN 1⟩
              generalize w5.drew.setCell ⟨g, 0, none⟩ (.slice A2 (256 - 0) (c' - 0)) = w6 at H6 ⊢
              have c3 : w6.cell? ⟨g, 3, none⟩ = some (.int .i64 s1.thr) := H6.out.1.c3
              have f3 := H6.out.1.frozen 3
              go_wp2
              go_ret
              exact ⟨by rw [HJ.out]; rfl, by rw [HJ.out]; show PutPost KI w g (FS.put s1 now 0 seq) _; unfold FS.put; rw [HCA.out]; exact H6.out.trans (H6.out.1.setThr (s1.thr + 1))⟩
          · subst hb1
            obtain ⟨A2, hcut, hnn, hp2⟩ := HP.out.1.cut (k := 1) (by show 1 ≤ (s1.l ++ [Fr.mk seq now 1]).length; rw [HLEN.out]; omega) k0
            simp only [HLEN.out] at hcut hp2
            have hcut2 : ∀ W : World, (Instr.slice 52 (.slice A' 257 c') (some (.int .i64 1)) none none).run Try.prog W = .ok (.slice A2 (257 - 1) (c' - 1)) W := hcut
            have HP2 : Aside (PutPost KI w g { s1 with l := (s1.l ++ [Fr.mk seq now 1]).drop 1 } (w5.setCell ⟨g, 0, none⟩ (.slice A2 (257 - 1) (c' - 1)))) := ⟨HP.out.trans hp2⟩
            have HCA : Aside (cutAt s1.l.length = 1) := ⟨by unfold cutAt; have := HN.out; omega⟩
            clear hcut hp2 hnn
            go_region
            all_goals
              change Exit.then _ _ _ _ (w5.drew.setCell ⟨g, 0, none⟩ (.slice A2 (257 - 1) (c' - 1)))
              have H6 : Aside (PutPost KI w g { s1 with l := (s1.l ++ [Fr.mk seq now 1]).drop 1 } (w5.drew.setCell ⟨g, 0, none⟩ (.slice A2 (257 - 1) (c' - 1)))) := ⟨HP2.out.drewN 1⟩
              generalize w5.drew.setCell ⟨g, 0, none⟩ (.slice A2 (257 - 1) (c' - 1)) = w6 at H6 ⊢
              have c3 : w6.cell? ⟨g, 3, none⟩ = some (.int .i64 s1.thr) := H6.out.1.c3
              have f3 := H6.out.1.frozen 3
              go_wp2
              go_ret
              exact ⟨by rw [HJ.out]; rfl, by rw [HJ.out]; show PutPost KI w g (FS.put s1 now 0 seq) _; unfold FS.put; rw [HCA.out]; exact H6.out.trans (H6.out.1.setThr (s1.thr + 1))⟩
        · go_wp2_with fail
          refine (passed_calls _ s1 _ _ H2.out.1 (by have := OK2.out.len; omega)).mono ?_
          rintro e w3 ⟨rfl, hb⟩
          rw [HP0.out]
          have H3 := Aside.mk (H1.out.trans (H2.out.trans (H2.out.1.below hb)))
          clear hb
          obtain ⟨A, c, A', c', w4, h0, happ, h1, hf, hpost⟩ := H3.out.1.app ⟨seq, now, 2⟩ (by have := OK2.out.len; omega)
          obtain ⟨N, hN⟩ : ∃ N, N = s1.l.length + 1 := ⟨_, rfl⟩
          rw [← hN] at happ hpost
          have happ2 : (Builtin.append_ #[52, 52] 52 #[.slice A s1.l.length c, .slice (some ⟨w3.heap.size, 0, none⟩) 1 1]).run Try.prog (w3.alloc (.cells #[.int .i64 seq, .int .i64 now, .int .u64 2] 60)) = .ok (.slice A' N c') w4 := happ
          have HP : Aside (PutPost KI w g { s1 with l := s1.l ++ [⟨seq, now, 2⟩] } (w4.setCell ⟨g, 0, none⟩ (.slice A' N c'))) := ⟨H3.out.trans hpost⟩
          have HN := Aside.mk hN
          clear happ hpost hN
          go_wp2_with (at_builtin; refine Go.Lib.wpList_append_run _ rfl _ _ _ _ rfl _ _ rfl rfl _ _ happ2 ?_)
          generalize hW5 : w4.setCell ⟨g, 0, none⟩ (.slice A' N c') = w5 at HP ⊢
          have k0 : w5.cell? ⟨g, 0, none⟩ = some (.slice A' N c') := by rw [← hW5]; exact World.cell?_setCell_same' _ _ _ (by rw [h1]; rfl)
          have kf := HP.out.1.frozen 0
          have hw3 : IntKind.i64.wrap (s1.thr + 1) = s1.thr + 1 := IntWalk.i64_in _ (by have := HC2.out.t; omega)
          have hlen : (s1.l ++ [Fr.mk seq now 2]).length = N := by rw [List.length_append, HN.out]; rfl
          have hNle : N ≤ 257 := by have := HN.out; have := OK2.out.len; omega
          have HLEN := Aside.mk hlen
          clear h0 h1 hf happ2 hW5 hlen
          rcases (show N < 256 ∨ N = 256 ∨ N = 257 by omega) with hb1 | hb1 | hb1
          · obtain ⟨A2, hcut, hnn, hp2⟩ := HP.out.1.cut (k := 0) (by show 0 ≤ (s1.l ++ [Fr.mk seq now 2]).length; rw [HLEN.out]; omega) k0
            simp only [HLEN.out] at hcut hp2
            have hcut2 : ∀ W : World, (Instr.slice 52 (.slice A' N c') (some (.int .i64 0)) none none).run Try.prog W = .ok (.slice A2 (N - 0) (c' - 0)) W := hcut
            have HP2 : Aside (PutPost KI w g { s1 with l := (s1.l ++ [Fr.mk seq now 2]).drop 0 } (w5.setCell ⟨g, 0, none⟩ (.slice A2 (N - 0) (c' - 0)))) := ⟨HP.out.trans hp2⟩
            have HCA : Aside (cutAt s1.l.length = 0) := ⟨by unfold cutAt; have := HN.out; omega⟩
            have hx : (N : Int) - 256 < 0 := by omega
            have hw : IntKind.i64.wrap ((N : Int) - 256) = (N : Int) - 256 := IntWalk.i64_in _ (by omega)
            clear hcut hp2 hnn
            go_region
            all_goals
              change Exit.then _ _ _ _ (w5.drew.setCell ⟨g, 0, none⟩ (.slice A2 (N - 0) (c' - 0)))
              have H6 : Aside (PutPost KI w g { s1 with l := (s1.l ++ [Fr.mk seq now 2]).drop 0 } (w5.drew.setCell ⟨g, 0, none⟩ (.slice A2 (N - 0) (c' - 0)))) := ⟨HP2.out.drewN 1⟩
              generalize w5.drew.setCell ⟨g, 0, none⟩ (.slice A2 (N - 0) (c' - 0)) = w6 at H6 ⊢
              have c3 : w6.cell? ⟨g, 3, none⟩ = some (.int .i64 s1.thr) := H6.out.1.c3
              have f3 := H6.out.1.frozen 3
              go_wp2
              go_ret
              exact ⟨by rw [HJ.out]; rfl, by rw [HJ.out]; show PutPost KI w g (FS.put s1 now 1 seq) _; unfold FS.put; rw [HCA.out]; exact H6.out.trans (H6.out.1.setThr (s1.thr + 1))⟩
          · subst hb1
            obtain ⟨A2, hcut, hnn, hp2⟩ := HP.out.1.cut (k := 0) (by show 0 ≤ (s1.l ++ [Fr.mk seq now 2]).length; rw [HLEN.out]; omega) k0
            simp only [HLEN.out] at hcut hp2
            have hcut2 : ∀ W : World, (Instr.slice 52 (.slice A' 256 c') (some (.int .i64 0)) none none).run Try.prog W = .ok (.slice A2 (256 - 0) (c' - 0)) W := hcut
            have HP2 : Aside (PutPost KI w g { s1 with l := (s1.l ++ [Fr.mk seq now 2]).drop 0 } (w5.setCell ⟨g, 0, none⟩ (.slice A2 (256 - 0) (c' - 0)))) := ⟨HP.out.trans hp2⟩
            have HCA : Aside (cutAt s1.l.length = 0) := ⟨by unfold cutAt; have := HN.out; omega⟩
            clear hcut hp2 hnn
            go_region
            all_goals
              change Exit.then _ _ _ _ (w5.drew.setCell ⟨g, 0, none⟩ (.slice A2 (256 - 0) (c' - 0)))
              have H6 : Aside (PutPost KI w g { s1 with l := (s1.l ++ [Fr.mk seq now 2]).drop 0 } (w5.drew.setCell ⟨g, 0, none⟩ (.slice A2 (256 - 0) (c' - 0)))) := ⟨HP2.out.drewN 1⟩
              generalize w5.drew.setCell ⟨g, 0, none⟩ (.slice A2 (256 - 0) (c' - 0)) = w6 at H6 ⊢
              have c3 : w6.cell? ⟨g, 3, none⟩ = some (.int .i64 s1.thr) := H6.out.1.c3
              have f3 := H6.out.1.frozen 3
              go_wp2
              go_ret
              exact ⟨by rw [HJ.out]; rfl, by rw [HJ.out]; show PutPost KI w g (FS.put s1 now 1 seq) _; unfold FS.put; rw [HCA.out]; exact H6.out.trans (H6.out.1.setThr (s1.thr + 1))⟩
          · subst hb1
            obtain ⟨A2, hcut, hnn, hp2⟩ := HP.out.1.cut (k := 1) (by show 1 ≤ (s1.l ++ [Fr.mk seq now 2]).length; rw [HLEN.out]; omega) k0
            simp only [HLEN.out] at hcut hp2
            have hcut2 : ∀ W : World, (Instr.slice 52 (.slice A' 257 c') (some (.int .i64 1)) none none).run Try.prog W = .ok (.slice A2 (257 - 1) (c' - 1)) W := hcut
            have HP2 : Aside (PutPost KI w g { s1 with l := (s1.l ++ [Fr.mk seq now 2]).drop 1 } (w5.setCell ⟨g, 0, none⟩ (.slice A2 (257 - 1) (c' - 1)))) := ⟨HP.out.trans hp2⟩
            have HCA : Aside (cutAt s1.l.length = 1) := ⟨by unfold cutAt; have := HN.out; omega⟩
            clear hcut hp2 hnn
            go_region
            all_goals
              change Exit.then _ _ _ _ (w5.drew.setCell ⟨g, 0, none⟩ (.slice A2 (257 - 1) (c' - 1)))
              have H6 : Aside (PutPost KI w g { s1 with l := (s1.l ++ [Fr.mk seq now 2]).drop 1 } (w5.drew.setCell ⟨g, 0, none⟩ (.slice A2 (257 - 1) (c' - 1)))) := ⟨HP2.out.drewN 1⟩
              generalize w5.drew.setCell ⟨g, 0, none⟩ (.slice A2 (257 - 1) (c' - 1)) = w6 at H6 ⊢
              have c3 : w6.cell? ⟨g, 3, none⟩ = some (.int .i64 s1.thr) := H6.out.1.c3
              have f3 := H6.out.1.frozen 3
              go_wp2
              go_ret
              exact ⟨by rw [HJ.out]; rfl, by rw [HJ.out]; show PutPost KI w g (FS.put s1 now 1 seq) _; unfold FS.put; rw [HCA.out]; exact H6.out.trans (H6.out.1.setThr (s1.thr + 1))⟩
end Go.Proofs.Ytdhgallfplbhpaa
