/- SubvlFull: a queue takes as many texts as it may have, and no more. Conditions: those of the row. -/
import Derived.Test.YtjhpeelgehchiaaOne
namespace Go.Proofs.Ytjhpeelgehchiaa
open Go.RowKit Go.Proofs.YtjhpeelgehchiaaW.PrintWords
set_option linter.unusedVariables false

/-- One queue that has so many texts. -/
structure Solo (w0 W : World) (g : Nat) (s : St) (d k : Nat) : Prop where
  i : In w0 W g s
  m : s.many = 1
  d : s.depth = d
  l : (s.L 0).length = k
theorem Solo.turn {w0 W : World} {g : Nat} {s : St} {d k : Nat} (h : Solo w0 W g s d k) : s.turn = 0 := by
  have := h.i.ok.t
  have := h.m
  omega
theorem Solo.all {w0 W : World} {g : Nat} {s : St} {d k : Nat} (h : Solo w0 W g s d k) : s.all = k := by
  have hm := h.m
  unfold St.all
  rw [h.l, h.i.ok.none 1 (by omega), h.i.ok.none 2 (by omega), h.i.ok.none 3 (by omega)]
  rfl
theorem Solo.next {w0 W : World} {g : Nat} {s : St} {d k : Nat} (h : Solo w0 W g s d k) (hk : 0 < k) : s.isNext 0 0 := by
  refine ⟨by rw [h.m]; omega, by rw [h.turn, h.m], ?_, fun e he => absurd he (by omega)⟩
  intro he
  have := h.l
  rw [he] at this
  simp at this
  omega
theorem Solo.push {w0 W W' : World} {g : Nat} {s : St} {d k : Nat} {l : List ByteArray} (h : Solo w0 W g s d k) (hi : In w0 W' g (s.push 0 l)) : Solo w0 W' g (s.push 0 l) d (k + l.length) :=
  ⟨hi, h.m, h.d, by show (upd s.L 0 (s.L 0 ++ l) 0).length = k + l.length; rw [upd_same, List.length_append, h.l]⟩
theorem Solo.pop {w0 W W' : World} {g : Nat} {s : St} {d k : Nat} (h : Solo w0 W g s d k) (hi : In w0 W' g (s.pop 0)) : Solo w0 W' g (s.pop 0) d (k - 1) :=
  ⟨hi, h.m, h.d, by show (upd s.L 0 ((s.L 0).drop 1) 0).length = k - 1; rw [upd_same, List.length_drop, h.l]⟩
theorem Solo.lenI {w0 W : World} {g : Nat} {s : St} {d k : Nat} (h : Solo w0 W g s d k) : s.lenI 0 = k := by
  unfold St.lenI
  rw [if_pos (by have := h.m; omega)]
  exact h.l

set_option maxHeartbeats 4000000 in
theorem subvlFull_walk (dep : Int) (a : Option Addr) (len cap : Nat) (L : Nat → ByteArray) (w : World) (hd : -9223372036854775808 ≤ dep ∧ dep ≤ 9223372036854775807) (hs : Sl w a len 1 isStr L) :
    Calls Try.prog 6 #[.int .i64 dep, .slice a len cap] w fun e w' => e = .returned (.bool true) ∧ Below w.heap.size w w' := by
  have HS := Aside.mk hs.strs
  have hm := hs.1
  unfold maxLen at hm
  clear hd hs
  by_cases hd : 1 ≤ dep ∧ dep ≤ 1024
  case neg =>
    have HD : Aside (¬ ((1 : Int) ≤ 1 ∧ (1 : Int) ≤ 4 ∧ 1 ≤ dep ∧ dep ≤ 1024)) := ⟨by omega⟩
    clear hd hm HS
    go_enter Try.func6, Try.ntmps6
    go_wp2_with (first
      | (go_at_call 9; refine (new_calls_no _ _ _ HD.out).mono ?_; rintro e w' ⟨rfl, rfl⟩)
      | (go_at_call 10; refine (awake_calls _).mono ?_; rintro e w' ⟨rfl, hb⟩; have HB := Aside.mk hb; clear hb))
    go_ret
    exact ⟨rfl, HB.out⟩
  obtain ⟨d, rfl⟩ : ∃ d : Nat, dep = d := ⟨dep.toNat, by omega⟩
  have HD : Aside (1 ≤ 1 ∧ 1 ≤ 4 ∧ 1 ≤ d ∧ d ≤ 1024) := ⟨by omega⟩
  clear hd
  by_cases h200 : (200 : Int) < (d : Int)
  · go_enter Try.func6, Try.ntmps6
    go_wp2_with fail
    refine (new_calls_ok 1 d _ HD.out).mono ?_
    rintro e w1 ⟨rfl, hh, hmi, hb⟩
    have H := Aside.mk (In.first HD.out hh hmi hb)
    clear hh hmi hb
    go_wp2_with fail
    refine (awake_calls _).mono ?_
    rintro e w2 ⟨rfl, hb⟩
    have H2 := Aside.mk (H.out.next hb)
    clear hb
    go_wp2
    go_ret
    exact ⟨rfl, H2.out.below⟩
  by_cases h20 : (20 : Int) < (len : Int)
  · go_enter Try.func6, Try.ntmps6
    go_wp2_with fail
    refine (new_calls_ok 1 d _ HD.out).mono ?_
    rintro e w1 ⟨rfl, hh, hmi, hb⟩
    have H := Aside.mk (In.first HD.out hh hmi hb)
    clear hh hmi hb
    go_wp2_with fail
    refine (awake_calls _).mono ?_
    rintro e w2 ⟨rfl, hb⟩
    have H2 := Aside.mk (H.out.next hb)
    clear hb
    go_wp2
    go_ret
    exact ⟨rfl, H2.out.below⟩
  go_enter Try.func6, Try.ntmps6
  go_wp2_with fail
  refine (new_calls_ok 1 d _ HD.out).mono ?_
  rintro e w1 ⟨rfl, hh, hmi, hb⟩
  have HR : Aside (Solo w w1 w.heap.size (St.fresh 1 d) d 0) := ⟨⟨In.first HD.out hh hmi hb, rfl, rfl, rfl⟩⟩
  clear hh hmi hb
  go_wp2_with fail
  go_loopw [7] (fun i wr => ∃ (k : Nat) (s : St), k ≤ d ∧ i = .int .i64 k ∧ Aside (Solo w wr w.heap.size s d k)) (fun i _ => d - (intOf i).toNat)
  case atStart => exact ⟨0, _, by omega, rfl, HR⟩
  case round =>
    clear HR
    obtain ⟨k, s, hk, rfl, HR⟩ := hrel
    by_cases hlt : k < d
    · have hw : IntKind.i64.wrap ((k : Int) + 1) = (k : Int) + 1 := IntWalk.i64_in _ (by omega)
      go_wp2_with fail
      refine (one_fits HR.out.i 0 _ (by rw [HR.out.m]; omega) (by rw [HR.out.l, HR.out.d]; omega)).mono ?_
      rintro e w2 ⟨rfl, hi⟩
      have HR2 := Aside.mk (HR.out.push hi)
      clear hi
      go_wp2
      exact ⟨⟨k + 1, _, by omega, by simp, HR2⟩, by simp [intOf]; omega⟩
    · obtain rfl : k = d := by omega
      go_wp2_with fail
      refine (one_full HR.out.i 0 _ (by rw [HR.out.m]; omega) (by rw [HR.out.l, HR.out.d])).mono ?_
      rintro e w2 ⟨rfl, hi⟩
      have HR2 : Aside (Solo w w2 w.heap.size s k k) := ⟨⟨hi, HR.out.m, HR.out.d, HR.out.l⟩⟩
      clear hi
      go_wp2_with fail
      refine (in_len HR2.out.i 0).mono ?_
      rintro e w3 ⟨rfl, rfl⟩
      rw [HR2.out.lenI]
      go_wp2_with fail
      refine (none_fits HR2.out.i 0 (by rw [HR.out.m]; omega)).mono ?_
      rintro e w4 ⟨rfl, hi⟩
      have HR3 : Aside (Solo w w4 w.heap.size (s.push 0 []) k k) := ⟨HR2.out.push hi⟩
      clear hi HR HR2
      go_wp2_with fail
      go_loopw [8] (fun i wr => ∃ (q : Nat) (s : St), q ≤ len ∧ i = .int .i64 q ∧ Aside (Solo w wr w.heap.size s k k)) (fun i _ => len - (intOf i).toNat)
      case atStart => exact ⟨0, _, by omega, rfl, HR3⟩
      case round =>
        clear HR3
        obtain ⟨q, s2, hq, rfl, HR⟩ := hrel
        by_cases hlt2 : q < len
        · obtain ⟨b, off, ha, hcell, hsz⟩ := HS.out q hlt2
          subst ha
          have hc := below_cell HR.out.i.below hcell
          have HC := Aside.mk hcell
          clear hcell
          have hw : IntKind.i64.wrap ((q : Int) + 1) = (q : Int) + 1 := IntWalk.i64_in _ (by omega)
          have hq0 : (0 : Int) ≤ q := by omega
          have hq1 : (q : Int) < len := by omega
          by_cases hbig : (200 : Int) < ((L q).size : Int)
          · go_wp2_with fail
            refine (awake_calls _).mono ?_
            rintro e w5 ⟨rfl, hb⟩
            have H2 := Aside.mk (HR.out.i.next hb)
            clear hb
            go_wp2
            go_ret
            exact ⟨rfl, H2.out.below⟩
          · go_wp2_with fail
            refine (in_pop HR.out.i (HR.out.next (by have := HD.out; omega))).mono ?_
            rintro e w5 ⟨x, _, rfl, hi⟩
            have HR2 := Aside.mk (HR.out.pop hi)
            have hc2 := below_cell hi.below HC.out
            clear hi hc
            go_wp2_with fail
            refine (one_fits HR2.out.i 0 _ (by rw [HR2.out.m]; omega) (by rw [HR2.out.l, HR2.out.d]; have := HD.out; omega)).mono ?_
            rintro e w6 ⟨rfl, hi⟩
            have HR3 : Aside (Solo w w6 w.heap.size _ k k) := ⟨by have := HR2.out.push hi; rw [show k - 1 + [L q].length = k by have := HD.out; simp; omega] at this; exact this⟩
            clear hi HR2 hc2
            go_wp2_with fail
            refine (one_full HR3.out.i 0 _ (by rw [HR3.out.m]; omega) (by rw [HR3.out.l, HR3.out.d])).mono ?_
            rintro e w7 ⟨rfl, hi⟩
            have HR4 : Aside (Solo w w7 w.heap.size _ k k) := ⟨⟨hi, HR3.out.m, HR3.out.d, HR3.out.l⟩⟩
            clear hi HR3
            go_wp2
            exact ⟨⟨q + 1, _, by omega, by simp, HR4⟩, by simp [intOf]; omega⟩
        · go_wp2_with fail
          refine (in_all HR.out.i).mono ?_
          rintro e w5 ⟨rfl, rfl⟩
          rw [HR.out.all]
          go_wp2_with fail
          refine (awake_calls _).mono ?_
          rintro e w6 ⟨rfl, hb⟩
          have H2 := Aside.mk (HR.out.i.next hb)
          clear hb
          go_wp2
          go_ret
          exact ⟨rfl, H2.out.below⟩
end Go.Proofs.Ytjhpeelgehchiaa
