/- SubvlFair: queues that have texts all along are taken from in turn. Conditions: those of the row. -/
import Derived.Test.YtjhpeelgehchiaaOne
namespace Go.Proofs.Ytjhpeelgehchiaa
open Go.RowKit Go.Proofs.YtjhpeelgehchiaaW.PrintWords
set_option linter.unusedVariables false

/-- The queues are being filled: those ahead of i have as many as each, i has k. -/
structure Fill (w0 W : World) (g : Nat) (s : St) (mm each ii kk : Nat) : Prop where
  i : In w0 W g s
  m : s.many = mm
  d : s.depth = 50
  t : s.turn = 0
  l : ∀ q, q < mm → (s.L q).length = if q < ii then each else if q = ii then kk else 0
theorem Fill.push {w0 W W' : World} {g : Nat} {s : St} {m each i k : Nat} {x : ByteArray} (h : Fill w0 W g s m each i k) (hi : In w0 W' g (s.push i [x])) : Fill w0 W' g (s.push i [x]) m each i (k + 1) := by
  refine ⟨hi, h.m, h.d, h.t, fun q hq => ?_⟩
  show (upd s.L i (s.L i ++ [x]) q).length = _
  have hl := h.l q hq
  by_cases hqi : q = i
  · subst hqi
    rw [upd_same, List.length_append, hl]
    simp
  · rw [upd_ne _ _ hqi, hl]
    simp [hqi]
theorem Fill.turn {w0 W : World} {g : Nat} {s : St} {m each i : Nat} (h : Fill w0 W g s m each i each) : Fill w0 W g s m each (i + 1) 0 := by
  refine ⟨h.i, h.m, h.d, h.t, fun q hq => ?_⟩
  rw [h.l q hq]
  by_cases h1 : q < i
  · rw [if_pos h1, if_pos (by omega)]
  · by_cases h2 : q = i
    · rw [if_neg h1, if_pos h2, if_pos (by omega)]
    · rw [if_neg h1, if_neg h2, if_neg (by omega)]
      split <;> rfl
/-- So many have been taken. -/
structure Took (w0 W : World) (g : Nat) (s : St) (mm each p : Nat) : Prop where
  i : In w0 W g s
  m : s.many = mm
  t : s.turn = p % mm
  l : ∀ q, q < mm → (s.L q).length + (p + mm - 1 - q) / mm = each
theorem Fill.took {w0 W : World} {g : Nat} {s : St} {m each : Nat} (h : Fill w0 W g s m each m 0) : Took w0 W g s m each 0 := by
  refine ⟨h.i, h.m, by rw [h.t, Nat.zero_mod], fun q hq => ?_⟩
  rw [h.l q hq, if_pos hq, Nat.div_eq_of_lt (by omega)]
  omega
theorem ar1 {m p q each : Nat} (h0 : 1 ≤ m) (h1 : m ≤ 4) (hp : p < m * each) (hq : q = p % m) : (p + m - 1 - q) / m + 1 ≤ each ∧ (p + 1 + m - 1 - q) / m = (p + m - 1 - q) / m + 1 := by
  have : m = 1 ∨ m = 2 ∨ m = 3 ∨ m = 4 := by omega
  rcases this with rfl | rfl | rfl | rfl <;> omega
theorem ar2 {m p q : Nat} (h0 : 1 ≤ m) (h1 : m ≤ 4) (hq : q < m) (hne : q ≠ p % m) : (p + 1 + m - 1 - q) / m = (p + m - 1 - q) / m := by
  have : m = 1 ∨ m = 2 ∨ m = 3 ∨ m = 4 := by omega
  rcases this with rfl | rfl | rfl | rfl <;> omega
theorem ar3 {m q each : Nat} (h0 : 1 ≤ m) (h1 : m ≤ 4) (hq : q < m) : (m * each + m - 1 - q) / m = each := by
  have : m = 1 ∨ m = 2 ∨ m = 3 ∨ m = 4 := by omega
  rcases this with rfl | rfl | rfl | rfl <;> omega
theorem Took.next {w0 W : World} {g : Nat} {s : St} {m each p : Nat} (h : Took w0 W g s m each p) (hm : 1 ≤ m ∧ m ≤ 4) (hp : p < m * each) : s.isNext 0 (p % m) := by
  refine ⟨by rw [h.m]; omega, by rw [h.t, h.m, Nat.add_zero, Nat.mod_mod], ?_, fun e he => absurd he (by omega)⟩
  intro he
  have hl := h.l (p % m) (Nat.mod_lt _ (by omega))
  have := (ar1 hm.1 hm.2 hp rfl).1
  rw [he] at hl
  simp only [List.length_nil] at hl
  omega
theorem Took.pop {w0 W W' : World} {g : Nat} {s : St} {m each p : Nat} (h : Took w0 W g s m each p) (hm : 1 ≤ m ∧ m ≤ 4) (hp : p < m * each) (hi : In w0 W' g (s.pop (p % m))) : Took w0 W' g (s.pop (p % m)) m each (p + 1) := by
  refine ⟨hi, h.m, ?_, fun q hq => ?_⟩
  · show (p % m + 1) % s.many = (p + 1) % m
    rw [h.m, succ_mod hm.1 hm.2]
  · show (upd s.L (p % m) ((s.L (p % m)).drop 1) q).length + _ = each
    have hl := h.l q hq
    by_cases hqp : q = p % m
    · rw [hqp, upd_same, List.length_drop, ← hqp]
      have := ar1 hm.1 hm.2 hp hqp
      omega
    · rw [upd_ne _ _ hqp, ar2 hm.1 hm.2 hq hqp]
      exact hl
theorem Took.end {w0 W : World} {g : Nat} {s : St} {m each : Nat} (h : Took w0 W g s m each (m * each)) (hm : 1 ≤ m ∧ m ≤ 4) : s.all = 0 := by
  have hz : ∀ q, (s.L q).length = 0 := by
    intro q
    by_cases hq : q < m
    · have := h.l q hq
      rw [ar3 hm.1 hm.2 hq] at this
      omega
    · rw [h.i.ok.none q (by rw [h.m]; omega)]
      rfl
  unfold St.all
  rw [hz 0, hz 1, hz 2, hz 3]

set_option maxHeartbeats 4000000 in
theorem subvlFair_walk (many each pops : Int) (w : World) (h1 : -9223372036854775808 ≤ many ∧ many ≤ 9223372036854775807) (h2 : -9223372036854775808 ≤ each ∧ each ≤ 9223372036854775807) (h3 : -9223372036854775808 ≤ pops ∧ pops ≤ 9223372036854775807) :
    Calls Try.prog 3 #[.int .i64 many, .int .i64 each, .int .i64 pops] w fun e w' => e = .returned (.bool true) ∧ Below w.heap.size w w' := by
  clear h1 h2 h3
  by_cases hd : 1 ≤ many ∧ many ≤ 4
  case neg =>
    have HD : Aside (¬ (1 ≤ many ∧ many ≤ 4 ∧ (1 : Int) ≤ 50 ∧ (50 : Int) ≤ 1024)) := ⟨by omega⟩
    clear hd
    go_enter Try.func3, Try.ntmps3
    go_wp2_with (first
      | (go_at_call 9; refine (new_calls_no _ _ _ HD.out).mono ?_; rintro e w' ⟨rfl, rfl⟩)
      | (go_at_call 10; refine (awake_calls _).mono ?_; rintro e w' ⟨rfl, hb⟩; have HB := Aside.mk hb; clear hb))
    go_ret
    exact ⟨rfl, HB.out⟩
  obtain ⟨m, rfl⟩ : ∃ m : Nat, many = m := ⟨many.toNat, by omega⟩
  have HD : Aside (1 ≤ m ∧ m ≤ 4 ∧ 1 ≤ 50 ∧ 50 ≤ 1024) := ⟨by omega⟩
  have HM : Aside (1 ≤ m ∧ m ≤ 4) := ⟨by omega⟩
  clear hd
  by_cases hbad : each < 1 ∨ 50 < each ∨ pops < 0 ∨ 200 < pops
  · have key : (each < 1) ∨ (¬ each < 1 ∧ 50 < each) ∨ (¬ each < 1 ∧ ¬ 50 < each ∧ pops < 0) ∨ (¬ each < 1 ∧ ¬ 50 < each ∧ ¬ pops < 0 ∧ 200 < pops) := by omega
    clear hbad
    rcases key with h | ⟨h1, h⟩ | ⟨h1, h2, h⟩ | ⟨h1, h2, h3, h⟩
    all_goals
      go_enter Try.func3, Try.ntmps3
      go_wp2_with fail
      refine (new_calls_ok m 50 _ HD.out).mono ?_
      rintro e w1 ⟨rfl, hh, hmi, hb⟩
      have H := Aside.mk (In.first HD.out hh hmi hb)
      clear hh hmi hb
      go_wp2_with fail
      refine (awake_calls _).mono ?_
      rintro e w2 ⟨rfl, hb⟩
      have H2 := Aside.mk (H.out.next hb)
      clear hb
      go_wp2
      go_ret
      exact ⟨rfl, H2.out.below⟩
  obtain ⟨q, rfl⟩ : ∃ q : Nat, each = q := ⟨each.toNat, by omega⟩
  obtain ⟨n, rfl⟩ : ∃ n : Nat, pops = n := ⟨pops.toNat, by omega⟩
  have g1 : ¬ (q : Int) < 1 := by omega
  have g2 : ¬ 50 < (q : Int) := by omega
  have g3 : ¬ (n : Int) < 0 := by omega
  have g4 : ¬ 200 < (n : Int) := by omega
  have hmul : m * q ≤ 200 := Nat.mul_le_mul HM.out.2 (show q ≤ 50 by omega)
  have hm4 : (m : Int) ≤ 4 := by have := HM.out.2; omega
  have HX : Aside (((m : Int) * (q : Int)) = ((m * q : Nat) : Int)) := ⟨by simp⟩
  have hwm : IntKind.i64.wrap ((m : Int) * (q : Int)) = (m : Int) * (q : Int) := IntWalk.i64_in _ (by rw [HX.out]; omega)
  have hm0 : ¬ (m : Int) = 0 := by have := HM.out.1; omega
  have HMUL := Aside.mk hmul
  clear hbad hmul
  go_enter Try.func3, Try.ntmps3
  go_wp2_with fail
  refine (new_calls_ok m 50 _ HD.out).mono ?_
  rintro e w1 ⟨rfl, hh, hmi, hb⟩
  have HR : Aside (Fill w w1 w.heap.size (St.fresh m 50) m q 0 0) := ⟨⟨In.first HD.out hh hmi hb, rfl, rfl, rfl, fun q' _ => by rw [if_neg (by omega)]; show ([] : List ByteArray).length = _; split <;> rfl⟩⟩
  clear hh hmi hb
  go_wp2_with fail
  go_loopw [9] (fun i wr => ∃ (k : Nat) (s : St), k ≤ m ∧ i = .int .i64 k ∧ Aside (Fill w wr w.heap.size s m q k 0)) (fun i _ => m - (intOf i).toNat)
  case atStart => exact ⟨0, _, by omega, rfl, HR⟩
  case round =>
    clear HR
    obtain ⟨k, s, hk, rfl, HR⟩ := hrel
    by_cases hlt : k < m
    · have hw : IntKind.i64.wrap ((k : Int) + 1) = (k : Int) + 1 := IntWalk.i64_in _ (by omega)
      go_wp2_with fail
      go_loopw [10] (fun i wr => ∃ (j : Nat) (s : St), j ≤ q ∧ i = .int .i64 j ∧ Aside (Fill w wr w.heap.size s m q k j)) (fun i _ => q - (intOf i).toNat)
      case atStart => exact ⟨0, _, by omega, rfl, HR⟩
      case round =>
        clear HR
        obtain ⟨j, s, hj, rfl, HR⟩ := hrel
        by_cases hltj : j < q
        · have hwj : IntKind.i64.wrap ((j : Int) + 1) = (j : Int) + 1 := IntWalk.i64_in _ (by omega)
          go_wp2_with fail
          refine (one_fits HR.out.i k _ (by rw [HR.out.m]; omega) (by rw [HR.out.l k hlt, HR.out.d, if_neg (by omega), if_pos rfl]; omega)).mono ?_
          rintro e w2 ⟨rfl, hi⟩
          have HR2 := Aside.mk (HR.out.push hi)
          clear hi
          go_wp2
          exact ⟨⟨j + 1, _, by omega, by simp, HR2⟩, by simp [intOf]; omega⟩
        · obtain rfl : j = q := by omega
          have HR2 := Aside.mk HR.out.turn
          go_wp2
          exact ⟨⟨k + 1, _, by omega, by simp, HR2⟩, by simp [intOf]; omega⟩
    · obtain rfl : k = m := by omega
      have HT := Aside.mk HR.out.took
      clear HR
      go_wp2_with fail
      go_loopw [11] (fun i wr => ∃ (j : Nat) (s : St), j ≤ n ∧ i = .int .i64 j ∧ Aside (Took w wr w.heap.size s k q (if j < k * q then j else k * q))) (fun i _ => n - (intOf i).toNat)
      case atStart => exact ⟨0, _, by omega, rfl, ⟨by rw [show (if 0 < k * q then 0 else k * q) = 0 by split <;> omega]; exact HT.out⟩⟩
      case round =>
        clear HT
        obtain ⟨j, s, hj, rfl, HR⟩ := hrel
        by_cases hltj : j < n
        · have hwj : IntKind.i64.wrap ((j : Int) + 1) = (j : Int) + 1 := IntWalk.i64_in _ (by omega)
          by_cases hin : j < k * q
          · have HR1 : Aside (Took w wr w.heap.size s k q j) := ⟨by have := HR.out; rw [if_pos hin] at this; exact this⟩
            have hge : ¬ (k : Int) * (q : Int) ≤ (j : Int) := by rw [HX.out]; omega
            clear HR
            have HIN := Aside.mk hin
            clear hin
            go_wp2_with fail
            refine (in_pop HR1.out.i (HR1.out.next HM.out HIN.out)).mono ?_
            rintro e w2 ⟨x, _, rfl, hi⟩
            have HR2 := Aside.mk (HR1.out.pop HM.out HIN.out hi)
            clear hi
            go_wp2
            have HR3 : Aside (Took w w2 w.heap.size (s.pop (j % k)) k q (if j + 1 < k * q then j + 1 else k * q)) := ⟨by rw [show (if j + 1 < k * q then j + 1 else k * q) = j + 1 by have := HIN.out; split <;> omega]; exact HR2.out⟩
            exact ⟨⟨j + 1, _, by omega, by simp, HR3⟩, by simp [intOf]; omega⟩
          · have HR1 : Aside (Took w wr w.heap.size s k q (k * q)) := ⟨by have := HR.out; rw [if_neg hin] at this; exact this⟩
            have hge : (k : Int) * (q : Int) ≤ (j : Int) := by rw [HX.out]; omega
            clear HR
            have HIN := Aside.mk hin
            clear hin
            go_wp2_with fail
            refine (in_empty HR1.out.i (HR1.out.end HM.out)).mono ?_
            rintro e w2 ⟨rfl, rfl⟩
            go_wp2
            have HR3 : Aside (Took w wr w.heap.size s k q (if j + 1 < k * q then j + 1 else k * q)) := ⟨by rw [if_neg (by have := HIN.out; omega)]; exact HR1.out⟩
            exact ⟨⟨j + 1, _, by omega, by simp, HR3⟩, by simp [intOf]; omega⟩
        · go_wp2_with fail
          refine (awake_calls _).mono ?_
          rintro e w6 ⟨rfl, hb⟩
          have H2 := Aside.mk (HR.out.i.next hb)
          clear hb
          go_wp2
          go_ret
          exact ⟨rfl, H2.out.below⟩
end Go.Proofs.Ytjhpeelgehchiaa
