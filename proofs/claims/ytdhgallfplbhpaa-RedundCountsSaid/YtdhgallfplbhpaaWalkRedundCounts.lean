/- RedundCounts: each frame that comes is counted once. Conditions: those of the row. -/
import Derived.Test.YtdhgallfplbhpaaCnt
import Derived.Test.YtdhgallfplbhpaaDec
namespace Go.Proofs.Ytdhgallfplbhpaa
open Go.RowKit
set_option linter.unusedVariables false
structure CtRel (w0 W : World) (g k : Nat) (s : FS) (n : Int) : Prop where
  i : In w0 W g s k
  n : n = s.sum
  l : (s.l.length : Int) ≤ s.thr
def CtAny (w0 W : World) (g k : Nat) (n : Int) : Prop := ∃ s, CtRel w0 W g k s n
theorem In.up1 {w0 W : World} {g n : Nat} {s : FS} (h : In w0 W g s n) : In w0 W g s (n + 1) :=
  ⟨h.held, h.below, h.mine, h.ok, ⟨⟨h.up.t.1, by have := h.up.t; omega⟩, ⟨h.up.w.1, by have := h.up.w; omega⟩, ⟨h.up.o.1, by have := h.up.o; omega⟩⟩⟩
set_option maxRecDepth 100000 in
set_option maxHeartbeats 4000000 in
theorem redundCounts_walk (k : Int) (a : Option Addr) (len cap : Nat) (L : Nat → OpV) (w : World) (h1 : -9223372036854775808 ≤ k ∧ k ≤ 9223372036854775807) (hs : Sl w a len 4 isOp L) :
    Calls Try.prog 8 #[.int .i64 k, .slice a len cap] w fun e w' => e = .returned (.bool true) ∧ Below w.heap.size w w' := by
  have HS := Aside.mk hs.ops
  have hm := hs.1
  unfold maxLen at hm
  clear h1 hs
  by_cases hk : 0 ≤ k ∧ k ≤ 1073741824
  case neg =>
    have HK := Aside.mk hk
    clear hk hm HS
    go_enter Try.func8, Try.ntmps8
    go_wp2_with (first
      | (go_at_call 9; refine (new_no _ _ HK.out).mono ?_; rintro e w' ⟨rfl, rfl⟩)
      | (go_at_call 10; refine (awake_calls _).mono ?_; rintro e w' ⟨rfl, hb⟩; have HB := Aside.mk hb; clear hb))
    go_ret
    exact ⟨rfl, HB.out⟩
  have HK := Aside.mk hk
  clear hk
  by_cases hbig : (400 : Int) < len
  · clear hm HS
    go_enter Try.func8, Try.ntmps8
    go_wp2_with fail
    refine (new_ok k _ HK.out).mono ?_
    rintro e w1 ⟨rfl, hh, hmi, hb⟩
    have H := Aside.mk (In.first HK.out hh hmi hb)
    clear hh hmi hb
    go_wp2_with (go_at_call 10; refine (awake_calls _).mono ?_; rintro e w' ⟨rfl, hb⟩; have HB := Aside.mk hb; clear hb)
    go_ret
    exact ⟨rfl, below_then H.out.below H.out.below.size HB.out⟩
  have hle : len ≤ 400 := by omega
  go_enter Try.func8, Try.ntmps8
  go_wp2_with fail
  refine (new_ok k _ HK.out).mono ?_
  rintro e w1 ⟨rfl, hh, hmi, hb⟩
  have HR : Aside (CtAny w w1 w.heap.size 0 0) := ⟨⟨_, In.first HK.out hh hmi hb, rfl, by simp [FS.fresh]⟩⟩
  clear hh hmi hb
  go_wp2_with fail
  go_loopw [7, 8] (fun n i wr => ∃ (q : Nat) (x : Int), q ≤ len ∧ i = .int .i64 q ∧ n = .int .i64 x ∧ Aside (CtAny w wr w.heap.size q x)) (fun n i _ => len - (intOf i).toNat)
  case atStart => exact ⟨0, 0, by omega, rfl, rfl, HR⟩
  case round =>
    clear HR
    obtain ⟨q, x, hq, rfl, rfl, HR⟩ := hrel
    by_cases hlt : q < len
    · obtain ⟨b, off, ha, hcell0, hcell1, hcell2, hcell3⟩ := HS.out q hlt
      subst ha
      obtain ⟨s, hO⟩ := HR.out
      have HO := Aside.mk hO
      have hc0 := below_cell hO.i.below hcell0
      have C1 := Aside.mk hcell1
      have C2 := Aside.mk hcell2
      have C3 := Aside.mk hcell3
      have hc1 := below_cell hO.i.below hcell1
      have hc2 := below_cell hO.i.below hcell2
      have hc3 := below_cell hO.i.below hcell3
      clear hO HR hcell0 hcell1 hcell2 hcell3
      generalize L q = o at *
      have hk0 : (0 : Int) ≤ q := by omega
      have hk1 : (q : Int) < len := by omega
      have hwk : IntKind.i64.wrap ((q : Int) + 1) = (q : Int) + 1 := IntWalk.i64_in _ (by omega)
      have hsum := sum_nonneg HO.out.i.up
      have hxs := HO.out.n
      cases hre : o.reset with
      | true =>
        rw [hre] at hc0
        clear hsum hxs
        go_wp2_with fail
        refine (in_reset HO.out.i).mono ?_
        rintro e w5 ⟨rfl, hp⟩
        have HN : Aside (CtAny w w5 w.heap.size (q + 1) x) := ⟨⟨_, hp.up1, HO.out.n, by have := HO.out.i.up.t; show ((0 : Nat) : Int) ≤ s.thr; omega⟩⟩
        clear hp
        go_wp2
        exact ⟨⟨q + 1, x, by omega, by simp, rfl, HN⟩, by simp [intOf]; omega⟩
      | false =>
        rw [hre] at hc0
        have HT := Aside.mk (take_count s o.now o.net o.seq HO.out.l)
        have H0 := Aside.mk (HO.out.i.drewN 1)
        have hw2 : IntKind.i64.wrap (x + 1) = x + 1 := IntWalk.i64_in _ (by omega)
        have hwx : IntKind.i64.wrap x = x := IntWalk.i64_in _ (by omega)
        clear hsum hxs
        go_wp2_with fail
        go_region_held3 (fun w' => w'.cell? ⟨b, off + q * 4 + 1, none⟩ = some (.int .i64 o.now) ∧ w'.cell? ⟨b, off + q * 4 + 2, none⟩ = some (.int .i64 o.net) ∧ w'.cell? ⟨b, off + q * 4 + 3, none⟩ = some (.int .i64 o.seq))
          (first
            | go_keep
            | exact ⟨below_cell HP.out.below C1.out, below_cell HP.out.below C2.out, below_cell HP.out.below C3.out⟩)
          (first
            | (go_at_call 11; refine (in_take H0.out (by omega) _ _ _).mono ?_; rintro e w5 ⟨rfl, hp⟩; have HP := Aside.mk hp; clear hp))
        all_goals
          have hup := HP.out.up
          have hlen := HP.out.ok.len
          obtain ⟨hcs, hll⟩ := HT.out
          have HTK : Aside (∃ s', s' = (s.take o.now o.net o.seq).2) := ⟨⟨_, rfl⟩⟩
          clear HT H0
          generalize (s.take o.now o.net o.seq).1 = r at *
          generalize (s.take o.now o.net o.seq).2 = s' at *
          have hu1 := hup.t
          have hu2 := hup.w
          have hu3 := hup.o
          have hwa : IntKind.i64.wrap (s'.thr + s'.twi) = s'.thr + s'.twi := IntWalk.i64_in _ (by omega)
          have hwb : IntKind.i64.wrap (s'.thr + s'.twi + s'.old) = s'.thr + s'.twi + s'.old := IntWalk.i64_in _ (by omega)
          have hl1 : ¬ s'.thr < (s'.l.length : Int) := by omega
          have hl2 : ¬ (256 : Int) < (s'.l.length : Int) := by omega
          have HLL := Aside.mk hll
          have HN0 := HO.out.n
          have hcase : (r = 1 ∧ s'.thr + s'.twi + s'.old = x) ∨ (r = 24 ∧ s'.thr + s'.twi + s'.old = x) ∨ (¬ r = 1 ∧ ¬ r = 24 ∧ s'.thr + s'.twi + s'.old = x + 1) := by
            rw [HN0]
            rcases hcs with ⟨h1 | h1, h2⟩ | ⟨⟨h1, h2⟩, h3⟩
            · exact .inl ⟨h1, h2⟩
            · exact .inr (.inl ⟨h1, h2⟩)
            · exact .inr (.inr ⟨h1, h2, h3⟩)
          clear hup hlen hcs hu1 hu2 hu3 hll HN0 HTK
          rcases hcase with ⟨hr, hE⟩ | ⟨hr, hE⟩ | ⟨hr, hr2, hE⟩
          · have HN : Aside (CtAny w w5 w.heap.size (q + 1) x) := ⟨⟨_, HP.out, hE.symm, HLL.out⟩⟩
            subst hr
            go_wp2_with (first
              | (go_at_call 14; refine (thr_calls _ s' _ HP.out.held).mono ?_; rintro e w' ⟨rfl, rfl⟩)
              | (go_at_call 15; refine (twi_calls _ s' _ HP.out.held).mono ?_; rintro e w' ⟨rfl, rfl⟩)
              | (go_at_call 21; refine (old_calls _ s' _ HP.out.held).mono ?_; rintro e w' ⟨rfl, rfl⟩)
              | (go_at_call 16; refine (held_calls _ s' _ HP.out.held).mono ?_; rintro e w' ⟨rfl, rfl⟩))
            exact ⟨⟨q + 1, x, by omega, by simp, rfl, HN⟩, by simp [intOf]; omega⟩
          · have HN : Aside (CtAny w w5 w.heap.size (q + 1) x) := ⟨⟨_, HP.out, hE.symm, HLL.out⟩⟩
            subst hr
            go_wp2_with (first
              | (go_at_call 14; refine (thr_calls _ s' _ HP.out.held).mono ?_; rintro e w' ⟨rfl, rfl⟩)
              | (go_at_call 15; refine (twi_calls _ s' _ HP.out.held).mono ?_; rintro e w' ⟨rfl, rfl⟩)
              | (go_at_call 21; refine (old_calls _ s' _ HP.out.held).mono ?_; rintro e w' ⟨rfl, rfl⟩)
              | (go_at_call 16; refine (held_calls _ s' _ HP.out.held).mono ?_; rintro e w' ⟨rfl, rfl⟩))
            exact ⟨⟨q + 1, x, by omega, by simp, rfl, HN⟩, by simp [intOf]; omega⟩
          · have HN : Aside (CtAny w w5 w.heap.size (q + 1) (x + 1)) := ⟨⟨_, HP.out, hE.symm, HLL.out⟩⟩
            have hb1 : (r != 1) = true := bne_iff_ne.2 hr
            have hb2 : (r != 24) = true := bne_iff_ne.2 hr2
            go_wp2_with (first
              | (go_at_call 14; refine (thr_calls _ s' _ HP.out.held).mono ?_; rintro e w' ⟨rfl, rfl⟩)
              | (go_at_call 15; refine (twi_calls _ s' _ HP.out.held).mono ?_; rintro e w' ⟨rfl, rfl⟩)
              | (go_at_call 21; refine (old_calls _ s' _ HP.out.held).mono ?_; rintro e w' ⟨rfl, rfl⟩)
              | (go_at_call 16; refine (held_calls _ s' _ HP.out.held).mono ?_; rintro e w' ⟨rfl, rfl⟩))
            exact ⟨⟨q + 1, x + 1, by omega, by simp, rfl, HN⟩, by simp [intOf]; omega⟩
    · obtain ⟨s, hO⟩ := HR.out
      have HO := Aside.mk hO
      clear hO HR
      have hk1 : ¬ (q : Int) < len := by omega
      go_wp2_with (go_at_call 10; refine (awake_calls _).mono ?_; rintro e w' ⟨rfl, hb⟩; have HB := Aside.mk hb; clear hb)
      go_ret
      exact ⟨rfl, below_then HO.out.i.below HO.out.i.below.size HB.out⟩
end Go.Proofs.Ytdhgallfplbhpaa
