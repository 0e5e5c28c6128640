/- Take of the document's filter: the walk. Conditions: the filter lies; its frames lie by their ticks; its counts are small. -/
import Derived.Test.YtdhgallfplbhpaaRefT
import Derived.Test.YtdhgallfplbhpaaTakW
namespace Go.Proofs.Ytdhgallfplbhpaa
open Go.RowKit Go.Proofs.YtdhgallfplbhpaaW.PrintWords
set_option linter.unusedVariables false
set_option maxRecDepth 100000 in
set_option maxHeartbeats 2000000 in
theorem rtake_no (g : Nat) (s : FS) (now net seq : Int) (w : World) (H : Held KR w g s) (ht : s.timely now net seq ≠ 0) :
    Calls Try.prog 20 #[.pointer (some ⟨g, 0, none⟩), .int .i64 now, .int .i64 net, .int .i64 seq] w fun e w' => e = .returned (.int .i64 (s.timely now net seq)) ∧ w = w' := by
  have c2 := H.c2
  clear H
  have key : now < 0 ∨ (¬ now < 0 ∧ 1125899906842624 < now) ∨ (¬ now < 0 ∧ ¬ 1125899906842624 < now ∧ net < 0) ∨ (¬ now < 0 ∧ ¬ 1125899906842624 < now ∧ ¬ net < 0 ∧ 1 < net) ∨ (¬ now < 0 ∧ ¬ 1125899906842624 < now ∧ ¬ net < 0 ∧ ¬ 1 < net ∧ seq < 0) ∨ (¬ now < 0 ∧ ¬ 1125899906842624 < now ∧ ¬ net < 0 ∧ ¬ 1 < net ∧ ¬ seq < 0 ∧ 255 < seq) ∨ (¬ now < 0 ∧ ¬ 1125899906842624 < now ∧ ¬ net < 0 ∧ ¬ 1 < net ∧ ¬ seq < 0 ∧ ¬ 255 < seq) := by omega
  have fin : ∀ b : Bool, (now < 0 ∨ 1125899906842624 < now ∨ net < 0 ∨ 1 < net ∨ seq < 0 ∨ 255 < seq) → s.timely now net seq = 1 := fun _ h => by unfold FS.timely; rw [if_pos h]
  have FN := Aside.mk fin
  have HT := Aside.mk ht
  clear fin ht
  rcases key with h1 | ⟨h1, h2⟩ | ⟨h1, h2, h3⟩ | ⟨h1, h2, h3, h4⟩ | ⟨h1, h2, h3, h4, h5⟩ | ⟨h1, h2, h3, h4, h5, h6⟩ | ⟨h1, h2, h3, h4, h5, h6⟩
  · have HF := Aside.mk (FN.out true (by omega)); clear FN; rw [HF.out]; go_enter Try.func20, Try.ntmps20; go_wp2; go_ret; exact ⟨rfl, rfl⟩
  · have HF := Aside.mk (FN.out true (by omega)); clear FN; rw [HF.out]; go_enter Try.func20, Try.ntmps20; go_wp2; go_ret; exact ⟨rfl, rfl⟩
  · have HF := Aside.mk (FN.out true (by omega)); clear FN; rw [HF.out]; go_enter Try.func20, Try.ntmps20; go_wp2; go_ret; exact ⟨rfl, rfl⟩
  · have HF := Aside.mk (FN.out true (by omega)); clear FN; rw [HF.out]; go_enter Try.func20, Try.ntmps20; go_wp2; go_ret; exact ⟨rfl, rfl⟩
  · have HF := Aside.mk (FN.out true (by omega)); clear FN; rw [HF.out]; go_enter Try.func20, Try.ntmps20; go_wp2; go_ret; exact ⟨rfl, rfl⟩
  · have HF := Aside.mk (FN.out true (by omega)); clear FN; rw [HF.out]; go_enter Try.func20, Try.ntmps20; go_wp2; go_ret; exact ⟨rfl, rfl⟩
  · clear FN
    by_cases h7 : now < s.now
    · have HF : Aside (s.timely now net seq = 24) := ⟨by unfold FS.timely; rw [if_neg (by omega), if_pos h7]⟩
      rw [HF.out]
      go_enter Try.func20, Try.ntmps20
      go_wp2
      go_ret
      exact ⟨rfl, rfl⟩
    · exact absurd (by unfold FS.timely; rw [if_neg (by omega), if_neg h7]) HT.out
/-- The frames that have been looked at are none that a copy may be of. -/
structure Seen (w : World) (s : FS) (net seq : Int) (k : Nat) (own : Bool) (wr : World) : Prop where
  below : Below w.heap.size w wr
  pas : ∀ f ∈ s.l.take k, f.seq = seq → f.hit net = true
  own : own = decide (∃ f ∈ s.l.take k, f.seq = seq)
theorem Seen.start (w : World) (s : FS) (net seq : Int) : Seen w s net seq 0 false w := ⟨Below.refl _ _, fun f hf => by simp at hf, by simp⟩
theorem Seen.next {w wr wr' : World} {s : FS} {net seq : Int} {k : Nat} {own : Bool} (h : Seen w s net seq k own wr) (hb : Below wr.heap.size wr wr') : Seen w s net seq k own wr' := ⟨below_then h.below h.below.size hb, h.pas, h.own⟩
theorem hit0 (f : Fr) : f.hit 0 = f.onA := by simp [Fr.hit, Fr.onA]
theorem hit1 (f : Fr) : f.hit 1 = f.onB := by simp [Fr.hit, Fr.onB]
theorem Seen.skip {w wr : World} {s : FS} {net seq : Int} {k : Nat} {own : Bool} {f : Fr} (h : Seen w s net seq k own wr) (hf : s.l[k]? = some f) (hs : f.seq ≠ seq) : Seen w s net seq (k + 1) own wr := by
  refine ⟨h.below, ?_, ?_⟩
  · rw [take_snoc hf]
    intro f' hf' hs'
    rcases List.mem_append.1 hf' with h3 | h3
    · exact h.pas f' h3 hs'
    · simp at h3; subst h3; exact absurd hs' hs
  · rw [h.own, take_snoc hf]
    apply decide_eq_decide.2
    constructor
    · rintro ⟨f', h1, h2⟩
      exact ⟨f', List.mem_append.2 (.inl h1), h2⟩
    · rintro ⟨f', h1, h2⟩
      rcases List.mem_append.1 h1 with h3 | h3
      · exact ⟨f', h3, h2⟩
      · simp at h3; subst h3; exact absurd h2 hs
theorem Seen.hit {w wr : World} {s : FS} {net seq : Int} {k : Nat} {own : Bool} {f : Fr} (h : Seen w s net seq k own wr) (hf : s.l[k]? = some f) (hs : f.seq = seq) (hh : f.hit net = true) : Seen w s net seq (k + 1) true wr := by
  refine ⟨h.below, ?_, ?_⟩
  · rw [take_snoc hf]
    intro f' hf' hs'
    rcases List.mem_append.1 hf' with h3 | h3
    · exact h.pas f' h3 hs'
    · simp at h3; subst h3; exact hh
  · symm
    apply decide_eq_true
    exact ⟨f, by rw [take_snoc hf]; exact List.mem_append.2 (.inr (by simp)), hs⟩
set_option maxRecDepth 100000 in
set_option maxHeartbeats 8000000 in
theorem rtake_yes (g : Nat) (s : FS) (now net seq : Int) (w : World) (H : Held KR w g s) (ok : s.ok) (cap : s.cap) (hsr : s.sorted) (ht : s.timely now net seq = 0) :
    Calls Try.prog 20 #[.pointer (some ⟨g, 0, none⟩), .int .i64 now, .int .i64 net, .int .i64 seq] w fun e w' => e = .returned (.int .i64 (s.take now net seq).1) ∧ PutPost KR w g (s.take now net seq).2 w' := by
  have HH := Aside.mk H
  have HO := Aside.mk ok
  have c2 := H.c2
  obtain ⟨hnow, hnet, hseq, hle⟩ := timely_ok ht
  have HT : Aside (s.take now net seq = (s.forget now).judge now net seq) := ⟨by unfold FS.take; rw [if_pos ht]⟩
  rw [HT.out]
  have OK2 := Aside.mk (forget_ok ok hle hnow.2)
  have HC2 : Aside (s.forget now).cap := ⟨⟨cap.t, cap.w, cap.o⟩⟩
  have HNW := Aside.mk hnow
  have HTK : Aside (∀ f ∈ s.l, 0 ≤ f.tick ∧ f.tick ≤ 1125899906842624) := ⟨fun f hf => ⟨(ok.l f hf).2.1, by have := (ok.l f hf).2.2.1; have := ok.n1; omega⟩⟩
  have HFF := Aside.mk (forget_filter hsr now)
  have q1 : ¬ now < 0 := by omega
  have q2 : ¬ 1125899906842624 < now := by omega
  have q3 : ¬ seq < 0 := by omega
  have q4 : ¬ 255 < seq := by omega
  have q5 : ¬ now < s.now := by omega
  obtain ⟨s1, hs1⟩ : ∃ s1, s1 = s.forget now := ⟨_, rfl⟩
  rw [← hs1] at OK2 HC2 HFF ⊢
  have HS1 := Aside.mk hs1
  clear H ok cap hsr ht hnow hseq hle HT hs1
  have HL1 : Aside (s1.l.length ≤ 256) := ⟨OK2.out.len⟩
  rcases hnet with rfl | rfl
  · go_enter Try.func20, Try.ntmps20
    go_wp2_with fail
    refine (rforget_calls _ s _ _ HH.out HNW.out HTK.out (by have := HO.out.len; omega)).mono ?_
    rintro e w1 ⟨rfl, hp⟩
    rw [HFF.out] at hp
    have H1 := Aside.mk hp
    clear hp
    have HP : Aside (Seen w1 s1 0 seq 0 false w1) := ⟨Seen.start _ _ _ _⟩
    go_wp2_with fail
    go_loopw [9, 10] (fun o i wr => ∃ (k : Nat) (own : Bool), k ≤ s1.l.length ∧ i = .int .i64 k ∧ o = .bool own ∧ Aside (Seen w1 s1 0 seq k own wr)) (fun o i _ => s1.l.length - (intOf i).toNat)
    case atStart => exact ⟨0, false, by omega, rfl, rfl, HP⟩
    case round =>
      clear HP
      obtain ⟨k, own, hk, rfl, rfl, HP⟩ := hrel
      by_cases hlt : k < s1.l.length
      · have hf := List.getElem?_eq_getElem hlt
        obtain ⟨b, off, c, h0, hnc, hr⟩ := H1.out.1.reads (by omega)
        have H0 := Aside.mk h0
        have h0' := below_cell HP.out.below h0
        have x0 := below_cell HP.out.below (hr k _ hf 0 _ (by decide) rfl)
        have x1 := below_cell HP.out.below (hr k _ hf 1 _ (by decide) rfl)
        have x2 := below_cell HP.out.below (hr k _ hf 2 _ (by decide) rfl)
        have x3 := below_cell HP.out.below (hr k _ hf 3 _ (by decide) rfl)
        have HWL := Aside.mk (OK2.out.l _ (List.getElem_mem hlt)).1
        have HF := Aside.mk hf
        have hk0 : (0 : Int) ≤ k := by omega
        have hk1 : (k : Int) < s1.l.length := by omega
        have hwk : IntKind.i64.wrap ((k : Int) + 1) = (k : Int) + 1 := IntWalk.i64_in _ (by have := HL1.out; omega)
        generalize s1.l[k] = f at *
        change wr.cell? ⟨b, off + k * 4, none⟩ = some (.int .i64 f.seq) at x0
        change wr.cell? ⟨b, off + k * 4 + 1, none⟩ = some (.int .i64 f.tick) at x1
        change wr.cell? ⟨b, off + k * 4 + 2, none⟩ = some (.bool f.onA) at x2
        change wr.cell? ⟨b, off + k * 4 + 3, none⟩ = some (.bool f.onB) at x3
        obtain ⟨fq, hfq⟩ : ∃ fq, fq = f.seq := ⟨_, rfl⟩
        obtain ⟨vA, hvA⟩ : ∃ v, v = f.onA := ⟨_, rfl⟩
        obtain ⟨vB, hvB⟩ : ∃ v, v = f.onB := ⟨_, rfl⟩
        have HFQ := Aside.mk hfq
        have HVA := Aside.mk hvA
        have HVB := Aside.mk hvB
        rw [← hfq] at x0
        rw [← hvA] at x2
        rw [← hvB] at x3
        clear hfq hvA hvB
        have HX2 := Aside.mk x2
        have HX3 := Aside.mk x3
        have hba := (Below.refl wr.heap.size wr).alloc (Nat.le_refl _) (.cells #[.int .i64 fq, .int .i64 f.tick, .bool vA, .bool vB] 62)
        have HP2 := Aside.mk (HP.out.next hba)
        have HB0 := Aside.mk (Blk.new wr 62 #[.int .i64 fq, .int .i64 f.tick, .bool vA, .bool vB])
        have b0 := HB0.out.cell 0
        have bA := HB0.out.cell 2
        have bB := HB0.out.cell 3
        change (wr.alloc (.cells #[.int .i64 fq, .int .i64 f.tick, .bool vA, .bool vB] 62)).cell? ⟨wr.heap.size, 0, none⟩ = some (.int .i64 fq) at b0
        change (wr.alloc (.cells #[.int .i64 fq, .int .i64 f.tick, .bool vA, .bool vB] 62)).cell? ⟨wr.heap.size, 2, none⟩ = some (.bool vA) at bA
        change (wr.alloc (.cells #[.int .i64 fq, .int .i64 f.tick, .bool vA, .bool vB] 62)).cell? ⟨wr.heap.size, 3, none⟩ = some (.bool vB) at bB
        clear hf h0 hr hba
        by_cases hs : seq = fq
        · subst hs
          cases vA with
          | true =>
            have HN : Aside (Seen w1 s1 0 seq (k + 1) true (wr.alloc (.cells #[.int .i64 seq, .int .i64 f.tick, .bool true, .bool vB] 62))) := ⟨HP2.out.hit HF.out HFQ.out.symm (by rw [hit0]; exact HVA.out.symm)⟩
            go_wp2
            exact ⟨⟨k + 1, true, by omega, by simp, rfl, HN⟩, by simp [intOf]; omega⟩
          | false =>
            have HM := Aside.mk (H1.out.1.below HP2.out.below)
            have h0a : (wr.alloc (.cells #[.int .i64 seq, .int .i64 f.tick, .bool false, .bool vB] 62)).cell? ⟨g, 0, none⟩ = some (.slice (some ⟨b, off, none⟩) s1.l.length c) := below_cell HP2.out.below H0.out
            have HNT : Aside (f.nets = 1 ∨ f.nets = 2) := ⟨by
              have := HWL.out
              unfold Fr.well at this
              have hv := HVA.out
              unfold Fr.onA at hv
              simp at hv
              omega⟩
            have HRM := Aside.mk (rmark HM.out.1 h0a HF.out HNT.out)
            have HEL := Aside.mk (HM.out.1.elem (K := KR) (j := 0) (f' := f) (u := .int .i64 f.seq) h0a HF.out (by decide) rfl)
            have hbg : b ≠ g := HEL.out.2.1
            have hgb : g ≠ b := fun e => hbg e.symm
            have fz2 := HEL.out.2.2 (off + k * 4 + 2)
            have fz3 := HEL.out.2.2 (off + k * 4 + 3)
            have y2 : (wr.alloc (.cells #[.int .i64 seq, .int .i64 f.tick, .bool false, .bool vB] 62)).cell? ⟨b, off + k * 4 + 2, none⟩ = some (.bool false) := below_cell ((Below.refl wr.heap.size wr).alloc (Nat.le_refl _) _) HX2.out
            have y3 : (wr.alloc (.cells #[.int .i64 seq, .int .i64 f.tick, .bool false, .bool vB] 62)).cell? ⟨b, off + k * 4 + 3, none⟩ = some (.bool vB) := below_cell ((Below.refl wr.heap.size wr).alloc (Nat.le_refl _) _) HX3.out
            have y4 : (wr.alloc (.cells #[.int .i64 seq, .int .i64 f.tick, .bool false, .bool vB] 62)).cell? ⟨g, 4, none⟩ = some (.int .i64 s1.twi) := HM.out.1.c4
            have fz4 := HM.out.1.frozen 4
            have hw4 : IntKind.i64.wrap (s1.twi + 1) = s1.twi + 1 := IntWalk.i64_in _ (by have := HC2.out.w; omega)
            have HJ : Aside (s1.judge now 0 seq = (21, { s1 with l := s1.l.set k { f with nets := 3 }, twi := s1.twi + 1 })) := ⟨by unfold FS.judge; rw [twiced_some HF.out HFQ.out.symm (by rw [hit0]; exact HVA.out.symm) HP.out.pas]⟩
            go_wp2
            go_ret
            exact ⟨by rw [HJ.out]; rfl, by rw [HJ.out]; exact ((H1.out.trans HM.out).trans HRM.out).trans (HRM.out.1.setTwi (s1.twi + 1))⟩
        · have HN : Aside (Seen w1 s1 0 seq (k + 1) own (wr.alloc (.cells #[.int .i64 fq, .int .i64 f.tick, .bool vA, .bool vB] 62))) := ⟨HP2.out.skip HF.out (fun e => hs (by rw [HFQ.out]; exact e.symm))⟩
          have hsb : (fq != seq) = true := bne_iff_ne.2 (fun e => hs e.symm)
          go_wp2
          exact ⟨⟨k + 1, own, by omega, by simp, rfl, HN⟩, by simp [intOf]; omega⟩
      · have hkn : k = s1.l.length := by omega
        subst hkn
        have hk1 : ¬ (s1.l.length : Int) < s1.l.length := by omega
        have HM := Aside.mk (H1.out.trans (H1.out.1.below HP.out.below))
        have htk : s1.l.take s1.l.length = s1.l := List.take_length
        have hpas := HP.out.pas
        have hown := HP.out.own
        rw [htk] at hpas hown
        have HPAS := Aside.mk hpas
        have HOWN := Aside.mk hown
        obtain ⟨A0, c0, h0, _⟩ := HM.out.1.slice
        clear hpas hown htk
        cases own with
        | true =>
          have HJ : Aside (s1.judge now 0 seq = (25, { s1 with old := s1.old + 1 })) := ⟨by unfold FS.judge; rw [twiced_none HPAS.out]; simp only; rw [if_pos (of_decide_eq_true HOWN.out.symm)]⟩
          have y5 : wr.cell? ⟨g, 5, none⟩ = some (.int .i64 s1.old) := HM.out.1.c5
          have fz5 := HM.out.1.frozen 5
          have hw5 : IntKind.i64.wrap (s1.old + 1) = s1.old + 1 := IntWalk.i64_in _ (by have := HC2.out.o; omega)
          go_wp2
          go_ret
          exact ⟨by rw [HJ.out]; rfl, by rw [HJ.out]; exact HM.out.trans (HM.out.1.setOld (s1.old + 1))⟩
        | false =>
          have HNE : Aside (¬ ∃ f ∈ s1.l, f.seq = seq) := ⟨of_decide_eq_false HOWN.out.symm⟩
          go_wp2_with fail
          go_loop [12] (fun i => ∃ q : Nat, q ≤ s1.l.length ∧ i = .int .i64 q ∧ Aside (seq ≠ 0 → ∀ f ∈ s1.l.take q, f.ahead seq = false)) (fun i => s1.l.length - (intOf i).toNat)
          case atStart => exact ⟨0, by omega, rfl, ⟨fun _ f hf => by simp at hf⟩⟩
          case round =>
            obtain ⟨q, hq, rfl, HA⟩ := hrel
            by_cases hlt2 : q < s1.l.length
            · have hf := List.getElem?_eq_getElem hlt2
              obtain ⟨b, off, c, h1, hnc, hr⟩ := HM.out.1.reads (by omega)
              have x0 := hr q _ hf 0 _ (by decide) rfl
              have HF := Aside.mk hf
              have HME := Aside.mk (List.getElem_mem hlt2)
              have hk0 : (0 : Int) ≤ q := by omega
              have hk2 : (q : Int) < s1.l.length := by omega
              have hwk : IntKind.i64.wrap ((q : Int) + 1) = (q : Int) + 1 := IntWalk.i64_in _ (by have := HL1.out; omega)
              generalize s1.l[q] = f at *
              change wr.cell? ⟨b, off + q * 4, none⟩ = some (.int .i64 f.seq) at x0
              clear hr hf h0
              by_cases hs0 : seq = 0
              · have HA2 : Aside (seq ≠ 0 → ∀ f ∈ s1.l.take (q + 1), f.ahead seq = false) := ⟨fun h => absurd hs0 h⟩
                have hsb : (seq != 0) = false := bne_eq_false_iff_eq.2 hs0
                clear hs0
                go_wp2_with fail
                refine (rstep_calls _ _ _).mono ?_
                rintro e w' ⟨rfl, rfl⟩
                go_wp2
                exact ⟨⟨q + 1, by omega, by simp, HA2⟩, by simp [intOf]; omega⟩
              · have hsb : (seq != 0) = true := bne_iff_ne.2 hs0
                obtain ⟨st, hst⟩ : ∃ st, st = step seq f.seq := ⟨_, rfl⟩
                have HST := Aside.mk hst
                have HS0 := Aside.mk hs0
                clear hst hs0
                go_wp2_with fail
                refine (rstep_calls _ _ _).mono ?_
                rintro e w' ⟨rfl, rfl⟩
                rw [← HST.out]
                by_cases c1 : 1 ≤ st
                · by_cases c2 : st ≤ 127
                  · have HJ : Aside (s1.judge now 0 seq = (28, { s1 with old := s1.old + 1 })) := ⟨by
                      unfold FS.judge
                      rw [twiced_none HPAS.out]
                      simp only
                      rw [if_neg HNE.out, if_pos]
                      refine ⟨HS0.out, ?_⟩
                      unfold FS.passed
                      rw [List.any_eq_true]
                      exact ⟨f, HME.out, decide_eq_true (by rw [← HST.out]; exact ⟨c1, c2⟩)⟩⟩
                    have y5 : wr.cell? ⟨g, 5, none⟩ = some (.int .i64 s1.old) := HM.out.1.c5
                    have fz5 := HM.out.1.frozen 5
                    have hw5 : IntKind.i64.wrap (s1.old + 1) = s1.old + 1 := IntWalk.i64_in _ (by have := HC2.out.o; omega)
                    go_wp2
                    go_ret
                    exact ⟨by rw [HJ.out]; rfl, by rw [HJ.out]; exact HM.out.trans (HM.out.1.setOld (s1.old + 1))⟩
                  · have HA2 : Aside (seq ≠ 0 → ∀ f ∈ s1.l.take (q + 1), f.ahead seq = false) := ⟨fun h f' hf' => by
                      rw [take_snoc HF.out] at hf'
                      rcases List.mem_append.1 hf' with h3 | h3
                      · exact HA.out h f' h3
                      · simp at h3; subst h3; exact decide_eq_false (by rw [← HST.out]; exact fun h => c2 h.2)⟩
                    go_wp2
                    exact ⟨⟨q + 1, by omega, by simp, HA2⟩, by simp [intOf]; omega⟩
                · have HA2 : Aside (seq ≠ 0 → ∀ f ∈ s1.l.take (q + 1), f.ahead seq = false) := ⟨fun h f' hf' => by
                    rw [take_snoc HF.out] at hf'
                    rcases List.mem_append.1 hf' with h3 | h3
                    · exact HA.out h f' h3
                    · simp at h3; subst h3; exact decide_eq_false (by rw [← HST.out]; exact fun h => c1 h.1)⟩
                  go_wp2
                  exact ⟨⟨q + 1, by omega, by simp, HA2⟩, by simp [intOf]; omega⟩
            · have hqn : q = s1.l.length := by omega
              subst hqn
              have HJ : Aside (s1.judge now 0 seq = (0, s1.put now 0 seq)) := ⟨by
                unfold FS.judge
                rw [twiced_none HPAS.out]
                simp only
                rw [if_neg HNE.out, if_neg]
                rintro ⟨h1, h2⟩
                unfold FS.passed at h2
                rw [List.any_eq_true] at h2
                obtain ⟨f, hf, ha⟩ := h2
                have := HA.out h1 f (by rw [List.take_length]; exact hf)
                rw [this] at ha
                cases ha⟩
              obtain ⟨A, c, A', c', w4, h1, happ, h2, hf2, hpost⟩ := HM.out.1.app ⟨seq, now, 1⟩ (by have := HL1.out; omega)
              obtain ⟨N, hN⟩ : ∃ N, N = s1.l.length + 1 := ⟨_, rfl⟩
              rw [← hN] at happ hpost
              have happ2 : (Builtin.append_ #[48, 48] 48 #[.slice A s1.l.length c, .slice (some ⟨wr.heap.size, 0, none⟩) 1 1]).run Try.prog (wr.alloc (.cells #[.int .i64 seq, .int .i64 now, .bool true, .bool false] 62)) = .ok (.slice A' N c') w4 := happ
              have HPP : Aside (PutPost KR w g { s1 with l := s1.l ++ [⟨seq, now, 1⟩] } (w4.setCell ⟨g, 0, none⟩ (.slice A' N c'))) := ⟨HM.out.trans hpost⟩
              have HN := Aside.mk hN
              clear happ hpost hN h0
              have hlen : (s1.l ++ [Fr.mk seq now 1]).length = N := by rw [List.length_append, HN.out]; rfl
              have hNle : N ≤ 257 := by have := HN.out; have := HL1.out; omega
              have HLEN := Aside.mk hlen
              have hw3 : IntKind.i64.wrap (s1.thr + 1) = s1.thr + 1 := IntWalk.i64_in _ (by have := HC2.out.t; omega)
              have k0 : (w4.setCell ⟨g, 0, none⟩ (.slice A' N c')).cell? ⟨g, 0, none⟩ = some (.slice A' N c') := World.cell?_setCell_same' _ _ _ (by rw [h2]; rfl)
              have kf := HPP.out.1.frozen 0
              have kf3 := HPP.out.1.frozen 3
              have k3 : (w4.setCell ⟨g, 0, none⟩ (.slice A' N c')).cell? ⟨g, 3, none⟩ = some (.int .i64 s1.thr) := HPP.out.1.c3
              clear hlen
              by_cases hbig : 256 < N
              · have hN7 : N = 257 := by omega
                obtain ⟨A2, hcut, hnn, hp2⟩ := HPP.out.1.cut (k := 1) (by show 1 ≤ (s1.l ++ [Fr.mk seq now 1]).length; rw [HLEN.out]; omega) k0
                simp only [HLEN.out] at hcut hp2
                have hcut2 : ∀ W : World, (Instr.slice 48 (.slice A' N c') (some (.int .i64 1)) none none).run Try.prog W = .ok (.slice A2 (N - 1) (c' - 1)) W := hcut
                have HP2 : Aside (PutPost KR w g { s1 with l := (s1.l ++ [Fr.mk seq now 1]).drop 1 } ((w4.setCell ⟨g, 0, none⟩ (.slice A' N c')).setCell ⟨g, 0, none⟩ (.slice A2 (N - 1) (c' - 1)))) := ⟨HPP.out.trans hp2⟩
                have HCA : Aside (cutAt s1.l.length = 1) := ⟨by unfold cutAt; have := HN.out; omega⟩
                have hbi : (256 : Int) < (N : Int) := by omega
                clear hcut hp2 hnn hbig hN7
                go_wp2_with (at_builtin; refine Go.Lib.wpList_append_run _ rfl _ _ _ _ rfl _ _ rfl rfl _ _ happ2 ?_)
                go_ret
                exact ⟨by rw [HJ.out]; rfl, by rw [HJ.out]; show PutPost KR w g (FS.put s1 now 0 seq) _; unfold FS.put; rw [HCA.out]; exact HP2.out.trans (HP2.out.1.setThr (s1.thr + 1))⟩
              · have hbi : ¬ (256 : Int) < (N : Int) := by omega
                have HCA : Aside (cutAt s1.l.length = 0) := ⟨by unfold cutAt; have := HN.out; omega⟩
                clear hbig
                go_wp2_with (at_builtin; refine Go.Lib.wpList_append_run _ rfl _ _ _ _ rfl _ _ rfl rfl _ _ happ2 ?_)
                go_ret
                exact ⟨by rw [HJ.out]; rfl, by rw [HJ.out]; show PutPost KR w g (FS.put s1 now 0 seq) _; unfold FS.put; rw [HCA.out, List.drop_zero]; exact HPP.out.trans (HPP.out.1.setThr (s1.thr + 1))⟩
  · go_enter Try.func20, Try.ntmps20
    go_wp2_with fail
    refine (rforget_calls _ s _ _ HH.out HNW.out HTK.out (by have := HO.out.len; omega)).mono ?_
    rintro e w1 ⟨rfl, hp⟩
    rw [HFF.out] at hp
    have H1 := Aside.mk hp
    clear hp
    have HP : Aside (Seen w1 s1 1 seq 0 false w1) := ⟨Seen.start _ _ _ _⟩
    go_wp2_with fail
    go_loopw [9, 10] (fun o i wr => ∃ (k : Nat) (own : Bool), k ≤ s1.l.length ∧ i = .int .i64 k ∧ o = .bool own ∧ Aside (Seen w1 s1 1 seq k own wr)) (fun o i _ => s1.l.length - (intOf i).toNat)
    case atStart => exact ⟨0, false, by omega, rfl, rfl, HP⟩
    case round =>
      clear HP
      obtain ⟨k, own, hk, rfl, rfl, HP⟩ := hrel
      by_cases hlt : k < s1.l.length
      · have hf := List.getElem?_eq_getElem hlt
        obtain ⟨b, off, c, h0, hnc, hr⟩ := H1.out.1.reads (by omega)
        have H0 := Aside.mk h0
        have h0' := below_cell HP.out.below h0
        have x0 := below_cell HP.out.below (hr k _ hf 0 _ (by decide) rfl)
        have x1 := below_cell HP.out.below (hr k _ hf 1 _ (by decide) rfl)
        have x2 := below_cell HP.out.below (hr k _ hf 2 _ (by decide) rfl)
        have x3 := below_cell HP.out.below (hr k _ hf 3 _ (by decide) rfl)
        have HWL := Aside.mk (OK2.out.l _ (List.getElem_mem hlt)).1
        have HF := Aside.mk hf
        have hk0 : (0 : Int) ≤ k := by omega
        have hk1 : (k : Int) < s1.l.length := by omega
        have hwk : IntKind.i64.wrap ((k : Int) + 1) = (k : Int) + 1 := IntWalk.i64_in _ (by have := HL1.out; omega)
        generalize s1.l[k] = f at *
        change wr.cell? ⟨b, off + k * 4, none⟩ = some (.int .i64 f.seq) at x0
        change wr.cell? ⟨b, off + k * 4 + 1, none⟩ = some (.int .i64 f.tick) at x1
        change wr.cell? ⟨b, off + k * 4 + 2, none⟩ = some (.bool f.onA) at x2
        change wr.cell? ⟨b, off + k * 4 + 3, none⟩ = some (.bool f.onB) at x3
        obtain ⟨fq, hfq⟩ : ∃ fq, fq = f.seq := ⟨_, rfl⟩
        obtain ⟨vA, hvA⟩ : ∃ v, v = f.onA := ⟨_, rfl⟩
        obtain ⟨vB, hvB⟩ : ∃ v, v = f.onB := ⟨_, rfl⟩
        have HFQ := Aside.mk hfq
        have HVA := Aside.mk hvA
        have HVB := Aside.mk hvB
        rw [← hfq] at x0
        rw [← hvA] at x2
        rw [← hvB] at x3
        clear hfq hvA hvB
        have HX2 := Aside.mk x2
        have HX3 := Aside.mk x3
        have hba := (Below.refl wr.heap.size wr).alloc (Nat.le_refl _) (.cells #[.int .i64 fq, .int .i64 f.tick, .bool vA, .bool vB] 62)
        have HP2 := Aside.mk (HP.out.next hba)
        have HB0 := Aside.mk (Blk.new wr 62 #[.int .i64 fq, .int .i64 f.tick, .bool vA, .bool vB])
        have b0 := HB0.out.cell 0
        have bA := HB0.out.cell 2
        have bB := HB0.out.cell 3
        change (wr.alloc (.cells #[.int .i64 fq, .int .i64 f.tick, .bool vA, .bool vB] 62)).cell? ⟨wr.heap.size, 0, none⟩ = some (.int .i64 fq) at b0
        change (wr.alloc (.cells #[.int .i64 fq, .int .i64 f.tick, .bool vA, .bool vB] 62)).cell? ⟨wr.heap.size, 2, none⟩ = some (.bool vA) at bA
        change (wr.alloc (.cells #[.int .i64 fq, .int .i64 f.tick, .bool vA, .bool vB] 62)).cell? ⟨wr.heap.size, 3, none⟩ = some (.bool vB) at bB
        clear hf h0 hr hba
        by_cases hs : seq = fq
        · subst hs
          cases vB with
          | true =>
            have HN : Aside (Seen w1 s1 1 seq (k + 1) true (wr.alloc (.cells #[.int .i64 seq, .int .i64 f.tick, .bool vA, .bool true] 62))) := ⟨HP2.out.hit HF.out HFQ.out.symm (by rw [hit1]; exact HVB.out.symm)⟩
            go_wp2
            exact ⟨⟨k + 1, true, by omega, by simp, rfl, HN⟩, by simp [intOf]; omega⟩
          | false =>
            have HM := Aside.mk (H1.out.1.below HP2.out.below)
            have h0a : (wr.alloc (.cells #[.int .i64 seq, .int .i64 f.tick, .bool vA, .bool false] 62)).cell? ⟨g, 0, none⟩ = some (.slice (some ⟨b, off, none⟩) s1.l.length c) := below_cell HP2.out.below H0.out
            have HNT : Aside (f.nets = 1 ∨ f.nets = 2) := ⟨by
              have := HWL.out
              unfold Fr.well at this
              have hv := HVB.out
              unfold Fr.onB at hv
              simp at hv
              omega⟩
            have HRM := Aside.mk (rmark HM.out.1 h0a HF.out HNT.out)
            have HEL := Aside.mk (HM.out.1.elem (K := KR) (j := 0) (f' := f) (u := .int .i64 f.seq) h0a HF.out (by decide) rfl)
            have hbg : b ≠ g := HEL.out.2.1
            have hgb : g ≠ b := fun e => hbg e.symm
            have fz2 := HEL.out.2.2 (off + k * 4 + 2)
            have fz3 := HEL.out.2.2 (off + k * 4 + 3)
            have y2 : (wr.alloc (.cells #[.int .i64 seq, .int .i64 f.tick, .bool vA, .bool false] 62)).cell? ⟨b, off + k * 4 + 2, none⟩ = some (.bool vA) := below_cell ((Below.refl wr.heap.size wr).alloc (Nat.le_refl _) _) HX2.out
            have y3 : (wr.alloc (.cells #[.int .i64 seq, .int .i64 f.tick, .bool vA, .bool false] 62)).cell? ⟨b, off + k * 4 + 3, none⟩ = some (.bool false) := below_cell ((Below.refl wr.heap.size wr).alloc (Nat.le_refl _) _) HX3.out
            have y4 : (wr.alloc (.cells #[.int .i64 seq, .int .i64 f.tick, .bool vA, .bool false] 62)).cell? ⟨g, 4, none⟩ = some (.int .i64 s1.twi) := HM.out.1.c4
            have fz4 := HM.out.1.frozen 4
            have hw4 : IntKind.i64.wrap (s1.twi + 1) = s1.twi + 1 := IntWalk.i64_in _ (by have := HC2.out.w; omega)
            have HJ : Aside (s1.judge now 1 seq = (21, { s1 with l := s1.l.set k { f with nets := 3 }, twi := s1.twi + 1 })) := ⟨by unfold FS.judge; rw [twiced_some HF.out HFQ.out.symm (by rw [hit1]; exact HVB.out.symm) HP.out.pas]⟩
            go_wp2
            go_ret
            exact ⟨by rw [HJ.out]; rfl, by rw [HJ.out]; exact ((H1.out.trans HM.out).trans HRM.out).trans (HRM.out.1.setTwi (s1.twi + 1))⟩
        · have HN : Aside (Seen w1 s1 1 seq (k + 1) own (wr.alloc (.cells #[.int .i64 fq, .int .i64 f.tick, .bool vA, .bool vB] 62))) := ⟨HP2.out.skip HF.out (fun e => hs (by rw [HFQ.out]; exact e.symm))⟩
          have hsb : (fq != seq) = true := bne_iff_ne.2 (fun e => hs e.symm)
          go_wp2
          exact ⟨⟨k + 1, own, by omega, by simp, rfl, HN⟩, by simp [intOf]; omega⟩
      · have hkn : k = s1.l.length := by omega
        subst hkn
        have hk1 : ¬ (s1.l.length : Int) < s1.l.length := by omega
        have HM := Aside.mk (H1.out.trans (H1.out.1.below HP.out.below))
        have htk : s1.l.take s1.l.length = s1.l := List.take_length
        have hpas := HP.out.pas
        have hown := HP.out.own
        rw [htk] at hpas hown
        have HPAS := Aside.mk hpas
        have HOWN := Aside.mk hown
        obtain ⟨A0, c0, h0, _⟩ := HM.out.1.slice
        clear hpas hown htk
        cases own with
        | true =>
          have HJ : Aside (s1.judge now 1 seq = (25, { s1 with old := s1.old + 1 })) := ⟨by unfold FS.judge; rw [twiced_none HPAS.out]; simp only; rw [if_pos (of_decide_eq_true HOWN.out.symm)]⟩
          have y5 : wr.cell? ⟨g, 5, none⟩ = some (.int .i64 s1.old) := HM.out.1.c5
          have fz5 := HM.out.1.frozen 5
          have hw5 : IntKind.i64.wrap (s1.old + 1) = s1.old + 1 := IntWalk.i64_in _ (by have := HC2.out.o; omega)
          go_wp2
          go_ret
          exact ⟨by rw [HJ.out]; rfl, by rw [HJ.out]; exact HM.out.trans (HM.out.1.setOld (s1.old + 1))⟩
        | false =>
          have HNE : Aside (¬ ∃ f ∈ s1.l, f.seq = seq) := ⟨of_decide_eq_false HOWN.out.symm⟩
          go_wp2_with fail
          go_loop [12] (fun i => ∃ q : Nat, q ≤ s1.l.length ∧ i = .int .i64 q ∧ Aside (seq ≠ 0 → ∀ f ∈ s1.l.take q, f.ahead seq = false)) (fun i => s1.l.length - (intOf i).toNat)
          case atStart => exact ⟨0, by omega, rfl, ⟨fun _ f hf => by simp at hf⟩⟩
          case round =>
            obtain ⟨q, hq, rfl, HA⟩ := hrel
            by_cases hlt2 : q < s1.l.length
            · have hf := List.getElem?_eq_getElem hlt2
              obtain ⟨b, off, c, h1, hnc, hr⟩ := HM.out.1.reads (by omega)
              have x0 := hr q _ hf 0 _ (by decide) rfl
              have HF := Aside.mk hf
              have HME := Aside.mk (List.getElem_mem hlt2)
              have hk0 : (0 : Int) ≤ q := by omega
              have hk2 : (q : Int) < s1.l.length := by omega
              have hwk : IntKind.i64.wrap ((q : Int) + 1) = (q : Int) + 1 := IntWalk.i64_in _ (by have := HL1.out; omega)
              generalize s1.l[q] = f at *
              change wr.cell? ⟨b, off + q * 4, none⟩ = some (.int .i64 f.seq) at x0
              clear hr hf h0
              by_cases hs0 : seq = 0
              · have HA2 : Aside (seq ≠ 0 → ∀ f ∈ s1.l.take (q + 1), f.ahead seq = false) := ⟨fun h => absurd hs0 h⟩
                have hsb : (seq != 0) = false := bne_eq_false_iff_eq.2 hs0
                clear hs0
                go_wp2_with fail
                refine (rstep_calls _ _ _).mono ?_
                rintro e w' ⟨rfl, rfl⟩
                go_wp2
                exact ⟨⟨q + 1, by omega, by simp, HA2⟩, by simp [intOf]; omega⟩
              · have hsb : (seq != 0) = true := bne_iff_ne.2 hs0
                obtain ⟨st, hst⟩ : ∃ st, st = step seq f.seq := ⟨_, rfl⟩
                have HST := Aside.mk hst
                have HS0 := Aside.mk hs0
                clear hst hs0
                go_wp2_with fail
                refine (rstep_calls _ _ _).mono ?_
                rintro e w' ⟨rfl, rfl⟩
                rw [← HST.out]
                by_cases c1 : 1 ≤ st
                · by_cases c2 : st ≤ 127
                  · have HJ : Aside (s1.judge now 1 seq = (28, { s1 with old := s1.old + 1 })) := ⟨by
                      unfold FS.judge
                      rw [twiced_none HPAS.out]
                      simp only
                      rw [if_neg HNE.out, if_pos]
                      refine ⟨HS0.out, ?_⟩
                      unfold FS.passed
                      rw [List.any_eq_true]
                      exact ⟨f, HME.out, decide_eq_true (by rw [← HST.out]; exact ⟨c1, c2⟩)⟩⟩
                    have y5 : wr.cell? ⟨g, 5, none⟩ = some (.int .i64 s1.old) := HM.out.1.c5
                    have fz5 := HM.out.1.frozen 5
                    have hw5 : IntKind.i64.wrap (s1.old + 1) = s1.old + 1 := IntWalk.i64_in _ (by have := HC2.out.o; omega)
                    go_wp2
                    go_ret
                    exact ⟨by rw [HJ.out]; rfl, by rw [HJ.out]; exact HM.out.trans (HM.out.1.setOld (s1.old + 1))⟩
                  · have HA2 : Aside (seq ≠ 0 → ∀ f ∈ s1.l.take (q + 1), f.ahead seq = false) := ⟨fun h f' hf' => by
                      rw [take_snoc HF.out] at hf'
                      rcases List.mem_append.1 hf' with h3 | h3
                      · exact HA.out h f' h3
                      · simp at h3; subst h3; exact decide_eq_false (by rw [← HST.out]; exact fun h => c2 h.2)⟩
                    go_wp2
                    exact ⟨⟨q + 1, by omega, by simp, HA2⟩, by simp [intOf]; omega⟩
                · have HA2 : Aside (seq ≠ 0 → ∀ f ∈ s1.l.take (q + 1), f.ahead seq = false) := ⟨fun h f' hf' => by
                    rw [take_snoc HF.out] at hf'
                    rcases List.mem_append.1 hf' with h3 | h3
                    · exact HA.out h f' h3
                    · simp at h3; subst h3; exact decide_eq_false (by rw [← HST.out]; exact fun h => c1 h.1)⟩
                  go_wp2
                  exact ⟨⟨q + 1, by omega, by simp, HA2⟩, by simp [intOf]; omega⟩
            · have hqn : q = s1.l.length := by omega
              subst hqn
              have HJ : Aside (s1.judge now 1 seq = (0, s1.put now 1 seq)) := ⟨by
                unfold FS.judge
                rw [twiced_none HPAS.out]
                simp only
                rw [if_neg HNE.out, if_neg]
                rintro ⟨h1, h2⟩
                unfold FS.passed at h2
                rw [List.any_eq_true] at h2
                obtain ⟨f, hf, ha⟩ := h2
                have := HA.out h1 f (by rw [List.take_length]; exact hf)
                rw [this] at ha
                cases ha⟩
              obtain ⟨A, c, A', c', w4, h1, happ, h2, hf2, hpost⟩ := HM.out.1.app ⟨seq, now, 2⟩ (by have := HL1.out; omega)
              obtain ⟨N, hN⟩ : ∃ N, N = s1.l.length + 1 := ⟨_, rfl⟩
              rw [← hN] at happ hpost
              have happ2 : (Builtin.append_ #[48, 48] 48 #[.slice A s1.l.length c, .slice (some ⟨wr.heap.size, 0, none⟩) 1 1]).run Try.prog (wr.alloc (.cells #[.int .i64 seq, .int .i64 now, .bool false, .bool true] 62)) = .ok (.slice A' N c') w4 := happ
              have HPP : Aside (PutPost KR w g { s1 with l := s1.l ++ [⟨seq, now, 2⟩] } (w4.setCell ⟨g, 0, none⟩ (.slice A' N c'))) := ⟨HM.out.trans hpost⟩
              have HN := Aside.mk hN
              clear happ hpost hN h0
              have hlen : (s1.l ++ [Fr.mk seq now 2]).length = N := by rw [List.length_append, HN.out]; rfl
              have hNle : N ≤ 257 := by have := HN.out; have := HL1.out; omega
              have HLEN := Aside.mk hlen
              have hw3 : IntKind.i64.wrap (s1.thr + 1) = s1.thr + 1 := IntWalk.i64_in _ (by have := HC2.out.t; omega)
              have k0 : (w4.setCell ⟨g, 0, none⟩ (.slice A' N c')).cell? ⟨g, 0, none⟩ = some (.slice A' N c') := World.cell?_setCell_same' _ _ _ (by rw [h2]; rfl)
              have kf := HPP.out.1.frozen 0
              have kf3 := HPP.out.1.frozen 3
              have k3 : (w4.setCell ⟨g, 0, none⟩ (.slice A' N c')).cell? ⟨g, 3, none⟩ = some (.int .i64 s1.thr) := HPP.out.1.c3
              clear hlen
              by_cases hbig : 256 < N
              · have hN7 : N = 257 := by omega
                obtain ⟨A2, hcut, hnn, hp2⟩ := HPP.out.1.cut (k := 1) (by show 1 ≤ (s1.l ++ [Fr.mk seq now 2]).length; rw [HLEN.out]; omega) k0
                simp only [HLEN.out] at hcut hp2
                have hcut2 : ∀ W : World, (Instr.slice 48 (.slice A' N c') (some (.int .i64 1)) none none).run Try.prog W = .ok (.slice A2 (N - 1) (c' - 1)) W := hcut
                have HP2 : Aside (PutPost KR w g { s1 with l := (s1.l ++ [Fr.mk seq now 2]).drop 1 } ((w4.setCell ⟨g, 0, none⟩ (.slice A' N c')).setCell ⟨g, 0, none⟩ (.slice A2 (N - 1) (c' - 1)))) := ⟨HPP.out.trans hp2⟩
                have HCA : Aside (cutAt s1.l.length = 1) := ⟨by unfold cutAt; have := HN.out; omega⟩
                have hbi : (256 : Int) < (N : Int) := by omega
                clear hcut hp2 hnn hbig hN7
                go_wp2_with (at_builtin; refine Go.Lib.wpList_append_run _ rfl _ _ _ _ rfl _ _ rfl rfl _ _ happ2 ?_)
                go_ret
                exact ⟨by rw [HJ.out]; rfl, by rw [HJ.out]; show PutPost KR w g (FS.put s1 now 1 seq) _; unfold FS.put; rw [HCA.out]; exact HP2.out.trans (HP2.out.1.setThr (s1.thr + 1))⟩
              · have hbi : ¬ (256 : Int) < (N : Int) := by omega
                have HCA : Aside (cutAt s1.l.length = 0) := ⟨by unfold cutAt; have := HN.out; omega⟩
                clear hbig
                go_wp2_with (at_builtin; refine Go.Lib.wpList_append_run _ rfl _ _ _ _ rfl _ _ rfl rfl _ _ happ2 ?_)
                go_ret
                exact ⟨by rw [HJ.out]; rfl, by rw [HJ.out]; show PutPost KR w g (FS.put s1 now 1 seq) _; unfold FS.put; rw [HCA.out, List.drop_zero]; exact HPP.out.trans (HPP.out.1.setThr (s1.thr + 1))⟩
theorem rtake_calls (g : Nat) (s : FS) (now net seq : Int) (w : World) (H : Held KR w g s) (ok : s.ok) (cap : s.cap) (hsr : s.sorted) :
    Calls Try.prog 20 #[.pointer (some ⟨g, 0, none⟩), .int .i64 now, .int .i64 net, .int .i64 seq] w fun e w' => e = .returned (.int .i64 (s.take now net seq).1) ∧ PutPost KR w g (s.take now net seq).2 w' := by
  by_cases ht : s.timely now net seq = 0
  · exact rtake_yes g s now net seq w H ok cap hsr ht
  · have HT : s.take now net seq = (s.timely now net seq, s) := by unfold FS.take; rw [if_neg ht]
    rw [HT]
    refine (rtake_no g s now net seq w H ht).mono ?_
    rintro e w' ⟨rfl, rfl⟩
    exact ⟨rfl, H.refl⟩
theorem sorted_set {l : List Fr} : ∀ {net seq : Int} {l' : List Fr}, twiced net seq l = some l' → l.Pairwise (fun a b => a.tick ≤ b.tick) → l'.Pairwise (fun a b => a.tick ≤ b.tick) := by
  induction l with
  | nil => intro net seq l' h _; simp [twiced] at h
  | cons q l ih =>
    intro net seq l' h hp
    have hp2 := List.pairwise_cons.1 hp
    unfold twiced at h
    split at h
    · injection h with h
      subst h
      exact List.pairwise_cons.2 ⟨fun b hb => hp2.1 b hb, hp2.2⟩
    · obtain ⟨m, hm, rfl⟩ := Option.map_eq_some_iff.1 h
      refine List.pairwise_cons.2 ⟨fun b hb => ?_, ih hm hp2.2⟩
      obtain ⟨f, h1, _, h3, _⟩ := (twiced_spec hm).2 b hb
      rw [h3]
      exact hp2.1 f h1
theorem take_sorted {s : FS} (ok : s.ok) (h : s.sorted) (now net seq : Int) : (s.take now net seq).2.sorted := by
  unfold FS.take
  split
  · rename_i ht
    have hle := (timely_ok ht).2.2.2
    have h1 : (s.forget now).l.Pairwise (fun a b => a.tick ≤ b.tick) := List.Pairwise.sublist (List.dropWhile_sublist _) h
    unfold FS.judge
    split
    · rename_i l' hl'
      exact sorted_set hl' h1
    · split
      · exact h1
      · split
        · exact h1
        · have hpl : ((s.forget now).put now net seq).l = ((s.forget now).l ++ [Fr.mk seq now (net.toNat + 1)]).drop (cutAt (s.forget now).l.length) := by simp only [FS.put]
          show List.Pairwise _ ((s.forget now).put now net seq).l
          rw [hpl]
          refine List.Pairwise.sublist (List.drop_sublist _ _) (List.pairwise_append.2 ⟨h1, List.pairwise_singleton _ _, fun a ha b hb => ?_⟩)
          rw [List.mem_singleton] at hb
          subst hb
          have := (ok.l a (dropWhile_mem ha)).2.2.1
          show a.tick ≤ now
          omega
  · exact h
end Go.Proofs.Ytdhgallfplbhpaa
