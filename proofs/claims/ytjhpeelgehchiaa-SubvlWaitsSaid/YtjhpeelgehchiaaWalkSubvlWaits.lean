/- SubvlWaits: a text comes out behind no more Pops than told. Conditions: those of the row. -/
import Derived.Test.YtjhpeelgehchiaaOne
namespace Go.Proofs.Ytjhpeelgehchiaa
open Go.RowKit Go.Proofs.YtjhpeelgehchiaaW.PrintWords
set_option linter.unusedVariables false

def tAhead : ByteArray := ⟨#[97, 104, 101, 97, 100]⟩
def tIt : ByteArray := ⟨#[105, 116]⟩
def tOther : ByteArray := ⟨#[111, 116, 104, 101, 114]⟩
/-- A push into another queue, whatever it answers. -/
theorem one_other {w0 W : World} {g : Nat} {s : St} (H : In w0 W g s) (i : Int) (t : ByteArray) (x : Nat) (hne : ¬ i = x) :
    Calls Try.prog 11 #[.pointer (some ⟨g, 0, none⟩), .int .i64 i, .slice (some ⟨W.heap.size, 0, none⟩) 1 1] (W.alloc (.cells #[.string t] 9)) fun e w' => ∃ n s', e = .returned (.int .i64 n) ∧ In w0 w' g s' ∧ s'.many = s.many ∧ s'.turn = s.turn ∧ s'.L x = s.L x := by
  by_cases hr : 0 ≤ i ∧ i < s.many
  · obtain ⟨j, rfl⟩ : ∃ j : Nat, i = j := ⟨i.toNat, by omega⟩
    by_cases hf : (s.L j).length = s.depth
    · refine (one_full H j t (by omega) hf).mono ?_
      rintro e w' ⟨rfl, hi⟩
      exact ⟨_, s, rfl, hi, rfl, rfl, rfl⟩
    · refine (one_fits H j t (by omega) (by have := H.ok.len j; omega)).mono ?_
      rintro e w' ⟨rfl, hi⟩
      exact ⟨_, _, rfl, hi, rfl, rfl, upd_ne _ _ (by omega)⟩
  · refine (one_arg H i t hr).mono ?_
    rintro e w' ⟨rfl, hi⟩
    exact ⟨_, s, rfl, hi, rfl, rfl, rfl⟩
/-- So many texts lie ahead. -/
structure Lead (w0 W : World) (g : Nat) (s : St) (mm xx k : Nat) : Prop where
  i : In w0 W g s
  m : s.many = mm
  d : s.depth = 1024
  t : s.turn = 0
  l : s.L xx = List.replicate k tAhead
theorem Lead.push {w0 W W' : World} {g : Nat} {s : St} {m x k : Nat} (h : Lead w0 W g s m x k) (hi : In w0 W' g (s.push x [tAhead])) : Lead w0 W' g (s.push x [tAhead]) m x (k + 1) := by
  refine ⟨hi, h.m, h.d, h.t, ?_⟩
  show upd s.L x (s.L x ++ [tAhead]) x = _
  rw [upd_same, h.l, List.replicate_succ']
/-- The text waits: behind so many Pops more at most. -/
structure Wait (w0 W : World) (g : Nat) (s : St) (mm xx ii top r : Nat) : Prop where
  i : In w0 W g s
  m : s.many = mm
  l : s.L xx = List.replicate r tAhead ++ [tIt]
  p : r * mm + (xx + mm - s.turn) % mm + ii + 1 ≤ top
theorem Lead.wait {w0 W W' : World} {g : Nat} {s : St} {m x k : Nat} (h : Lead w0 W g s m x k) (hx : x < m) (hi : In w0 W' g (s.push x [tIt])) : Wait w0 W' g (s.push x [tIt]) m x 0 (m * (k + 1)) k := by
  refine ⟨hi, h.m, ?_, ?_⟩
  · show upd s.L x (s.L x ++ [tIt]) x = _
    rw [upd_same, h.l]
  · show k * m + (x + m - s.turn) % m + 0 + 1 ≤ m * (k + 1)
    rw [h.t, Nat.sub_zero, Nat.add_mod_right, Nat.mod_eq_of_lt hx, Nat.mul_add, Nat.mul_comm]
    omega
theorem wd1 {m t d x : Nat} (h0 : 1 ≤ m) (h1 : m ≤ 4) (ht : t < m) (hd : d < m) (hx : x < m) (hle : ∀ e, e < d → (t + e) % m ≠ x) (hne : (t + d) % m ≠ x) : (x + m - ((t + d) % m + 1) % m) % m + 1 ≤ (x + m - t) % m := by
  have h : d = 0 ∨ d = 1 ∨ d = 2 ∨ d = 3 := by omega
  have hm : m = 1 ∨ m = 2 ∨ m = 3 ∨ m = 4 := by omega
  rcases h with rfl | rfl | rfl | rfl
  · rcases hm with rfl | rfl | rfl | rfl <;> omega
  · have := hle 0 (by omega)
    rcases hm with rfl | rfl | rfl | rfl <;> omega
  · have := hle 0 (by omega)
    have := hle 1 (by omega)
    rcases hm with rfl | rfl | rfl | rfl <;> omega
  · have := hle 0 (by omega)
    have := hle 1 (by omega)
    have := hle 2 (by omega)
    rcases hm with rfl | rfl | rfl | rfl <;> omega
theorem wd2 {m x : Nat} (h0 : 1 ≤ m) (h1 : m ≤ 4) (hx : x < m) : (x + m - (x + 1) % m) % m = m - 1 := by
  have hm : m = 1 ∨ m = 2 ∨ m = 3 ∨ m = 4 := by omega
  rcases hm with rfl | rfl | rfl | rfl <;> omega
theorem Wait.any {w0 W : World} {g : Nat} {s : St} {m x i top r : Nat} (h : Wait w0 W g s m x i top r) (hx : x < 4) : s.all ≠ 0 := by
  intro ha
  have hl : (s.L x).length = r + 1 := by rw [h.l]; simp
  unfold St.all at ha
  rcases four hx with rfl | rfl | rfl | rfl <;> omega
theorem Wait.other {w0 W W' : World} {g : Nat} {s : St} {m x i top r d T : Nat} (h : Wait w0 W g s m x i top r) (hm : 1 ≤ m ∧ m ≤ 4) (hx : x < m) (hn : s.isNext d T) (hT : ¬ T = x) (hi : In w0 W' g (s.pop T)) : Wait w0 W' g (s.pop T) m x (i + 1) top r := by
  refine ⟨hi, h.m, ?_, ?_⟩
  · show upd s.L T ((s.L T).drop 1) x = _
    rw [upd_ne _ _ (fun e => hT e.symm), h.l]
  · show r * m + (x + m - (T + 1) % s.many) % m + (i + 1) + 1 ≤ top
    have hp := h.p
    have hne : s.L x ≠ [] := by rw [h.l]; simp
    have heq := hn.eq
    rw [h.m] at heq
    have := wd1 hm.1 hm.2 (by have := h.i.ok.t; rw [h.m] at this; exact this) (by have := hn.lt'; rw [h.m] at this; exact this) hx (fun e he hex => hne (by have := hn.none e he; rw [h.m, hex] at this; exact this)) (by rw [← heq]; exact hT)
    rw [← heq] at this
    rw [h.m]
    omega
theorem Wait.own {w0 W W' : World} {g : Nat} {s : St} {m x i top r : Nat} (h : Wait w0 W g s m x i top (r + 1)) (hm : 1 ≤ m ∧ m ≤ 4) (hx : x < m) (hi : In w0 W' g (s.pop x)) : Wait w0 W' g (s.pop x) m x (i + 1) top r := by
  refine ⟨hi, h.m, ?_, ?_⟩
  · show upd s.L x ((s.L x).drop 1) x = _
    rw [upd_same, h.l, List.replicate_succ]
    rfl
  · show r * m + (x + m - (x + 1) % s.many) % m + (i + 1) + 1 ≤ top
    have hp := h.p
    rw [h.m, wd2 hm.1 hm.2 hx]
    rw [Nat.add_mul] at hp
    omega
theorem Wait.put {w0 W W' : World} {g : Nat} {s s' : St} {m x i top r : Nat} (h : Wait w0 W g s m x i top r) (hi : In w0 W' g s') (h1 : s'.many = s.many) (h2 : s'.turn = s.turn) (h3 : s'.L x = s.L x) : Wait w0 W' g s' m x i top r :=
  ⟨hi, h1.trans h.m, h3.trans h.l, by rw [h2]; exact h.p⟩
theorem Wait.head {w0 W : World} {g : Nat} {s : St} {m x i top r : Nat} {y : ByteArray} (h : Wait w0 W g s m x i top r) (hy : (s.L x).head? = some y) : (r = 0 ∧ y = tIt) ∨ (∃ q, r = q + 1) ∧ y = tAhead := by
  rw [h.l] at hy
  cases r with
  | zero => left; simp at hy; exact ⟨rfl, hy.symm⟩
  | succ q => right; simp [List.replicate_succ] at hy; exact ⟨⟨q, rfl⟩, hy.symm⟩

set_option maxRecDepth 100000 in
set_option maxHeartbeats 4000000 in
theorem subvlWaits_walk (many : Int) (x t : Int) (a : Option Addr) (len cap : Nat) (L : Nat → Int) (w : World) (hmany : -9223372036854775808 ≤ many ∧ many ≤ 9223372036854775807) (hx0 : -9223372036854775808 ≤ x ∧ x ≤ 9223372036854775807) (ht0 : -9223372036854775808 ≤ t ∧ t ≤ 9223372036854775807) (hs : Sl w a len 1 isInt L) :
    Calls Try.prog 4 #[.int .i64 many, .agg #[.int .i64 x, .int .i64 t], .slice a len cap] w fun e w' => e = .returned (.bool true) ∧ Below w.heap.size w w' := by
  have HS := Aside.mk hs.ints
  have hlm := hs.1
  unfold maxLen at hlm
  clear hmany hx0 ht0 hs
  by_cases hd : 1 ≤ many ∧ many ≤ 4
  case neg =>
    have HD : Aside (¬ (1 ≤ many ∧ many ≤ 4 ∧ (1 : Int) ≤ 1024 ∧ (1024 : Int) ≤ 1024)) := ⟨by omega⟩
    clear hd
    go_enter Try.func4, Try.ntmps4
    go_wp2_with (first
      | (go_at_call 9; refine (new_calls_no _ _ _ HD.out).mono ?_; rintro e w' ⟨rfl, rfl⟩)
      | (go_at_call 10; refine (awake_calls _).mono ?_; rintro e w' ⟨rfl, hb⟩; have HB := Aside.mk hb; clear hb))
    go_ret
    exact ⟨rfl, below_then ((Below.refl _ _).alloc (Nat.le_refl _) _) (by simp) HB.out⟩
  obtain ⟨m, rfl⟩ : ∃ m : Nat, many = m := ⟨many.toNat, by omega⟩
  have HD : Aside (1 ≤ m ∧ m ≤ 4 ∧ 1 ≤ 1024 ∧ 1024 ≤ 1024) := ⟨by omega⟩
  have HM : Aside (1 ≤ m ∧ m ≤ 4) := ⟨by omega⟩
  clear hd
  by_cases hbad : x < 0 ∨ (m : Int) ≤ x ∨ t < 0 ∨ 50 < t
  · have key : (x < 0) ∨ (¬ x < 0 ∧ (m : Int) ≤ x) ∨ (¬ x < 0 ∧ ¬ (m : Int) ≤ x ∧ t < 0) ∨ (¬ x < 0 ∧ ¬ (m : Int) ≤ x ∧ ¬ t < 0 ∧ 50 < t) := by omega
    clear hbad
    rcases key with h | ⟨h1, h⟩ | ⟨h1, h2, h⟩ | ⟨h1, h2, h3, h⟩
    all_goals
      go_enter Try.func4, Try.ntmps4
      go_wp2_with fail
      have hc0 := (Blk.new w 31 #[.int .i64 x, .int .i64 t]).cell 0
      have hc1 := (Blk.new w 31 #[.int .i64 x, .int .i64 t]).cell 1
      have hba : Below w.heap.size w (w.alloc (.cells #[.int .i64 x, .int .i64 t] 31)) := (Below.refl _ _).alloc (Nat.le_refl _) _
      generalize w.alloc (.cells #[.int .i64 x, .int .i64 t] 31) = wa at hc0 hc1 hba ⊢
      simp at hc0 hc1
      have C0 := Aside.mk hc0
      have C1 := Aside.mk hc1
      have HA := Aside.mk hba
      clear hc0 hc1 hba
      refine (new_calls_ok m 1024 _ HD.out).mono ?_
      rintro e w1 ⟨rfl, hh, hmi, hb⟩
      have H := Aside.mk (In.first HD.out hh hmi hb)
      have c0 := below_cell hb C0.out
      have c1 := below_cell hb C1.out
      clear hh hmi hb
      go_wp2_with fail
      refine (awake_calls _).mono ?_
      rintro e w2 ⟨rfl, hb⟩
      have H2 := Aside.mk (H.out.next hb)
      clear hb
      go_wp2
      go_ret
      exact ⟨rfl, below_then HA.out HA.out.size H2.out.below⟩
  obtain ⟨q, rfl⟩ : ∃ q : Nat, x = q := ⟨x.toNat, by omega⟩
  obtain ⟨n, rfl⟩ : ∃ n : Nat, t = n := ⟨t.toNat, by omega⟩
  have e1 : decide ((q : Int) < 0) = false := decide_eq_false (by omega)
  have e2 : decide ((m : Int) ≤ (q : Int)) = false := decide_eq_false (by omega)
  have e2' : decide (m ≤ q) = false := decide_eq_false (by omega)
  have e3 : decide ((n : Int) < 0) = false := decide_eq_false (by omega)
  have e4 : decide (50 < (n : Int)) = false := decide_eq_false (by omega)
  have HQ : Aside (q < m ∧ n ≤ 50) := ⟨by omega⟩
  have hmul : m * (n + 1) ≤ 204 := Nat.mul_le_mul HM.out.2 (show n + 1 ≤ 51 by omega)
  have hm4 : (m : Int) ≤ 4 := by have := HM.out.2; omega
  have HX : Aside (((m : Int) * ((n : Int) + 1)) = ((m * (n + 1) : Nat) : Int)) := ⟨by simp⟩
  have hwn : IntKind.i64.wrap ((n : Int) + 1) = (n : Int) + 1 := IntWalk.i64_in _ (by omega)
  have hwm : IntKind.i64.wrap ((m : Int) * ((n : Int) + 1)) = (m : Int) * ((n : Int) + 1) := IntWalk.i64_in _ (by rw [HX.out]; omega)
  have HMUL := Aside.mk hmul
  clear hbad hmul
  go_enter Try.func4, Try.ntmps4
  go_wp2_with fail
  have hc0 := (Blk.new w 31 #[.int .i64 q, .int .i64 n]).cell 0
  have hc1 := (Blk.new w 31 #[.int .i64 q, .int .i64 n]).cell 1
  have hba : Below w.heap.size w (w.alloc (.cells #[.int .i64 q, .int .i64 n] 31)) := (Below.refl _ _).alloc (Nat.le_refl _) _
  generalize w.alloc (.cells #[.int .i64 q, .int .i64 n] 31) = wa at hc0 hc1 hba ⊢
  simp at hc0 hc1
  have C0 := Aside.mk hc0
  have C1 := Aside.mk hc1
  have HA := Aside.mk hba
  clear hc0 hc1 hba
  refine (new_calls_ok m 1024 _ HD.out).mono ?_
  rintro e w1 ⟨rfl, hh, hmi, hb⟩
  have HR : Aside (Lead wa w1 wa.heap.size (St.fresh m 1024) m q 0) := ⟨⟨In.first HD.out hh hmi hb, rfl, rfl, rfl, rfl⟩⟩
  have c0 := below_cell hb C0.out
  have c1 := below_cell hb C1.out
  clear hh hmi hb
  go_wp2_with fail
  clear c0 c1
  go_loopw [9] (fun i wr => ∃ (k : Nat) (s : St), k ≤ n ∧ i = .int .i64 k ∧ Aside (Lead wa wr wa.heap.size s m q k)) (fun i _ => n - (intOf i).toNat)
  case atStart => exact ⟨0, _, by omega, rfl, HR⟩
  case round =>
    clear HR
    obtain ⟨k, s, hk, rfl, HR⟩ := hrel
    have c0 := below_cell HR.out.i.below C0.out
    have c1 := below_cell HR.out.i.below C1.out
    by_cases hlt : k < n
    · have hw : IntKind.i64.wrap ((k : Int) + 1) = (k : Int) + 1 := IntWalk.i64_in _ (by have := HQ.out; omega)
      go_wp2_with fail
      refine (one_fits HR.out.i q tAhead (by rw [HR.out.m]; have := HQ.out; omega) (by rw [HR.out.l, HR.out.d, List.length_replicate]; have := HQ.out; omega)).mono ?_
      rintro e w2 ⟨rfl, hi⟩
      have HR2 := Aside.mk (HR.out.push hi)
      clear hi c0 c1
      go_wp2
      exact ⟨⟨k + 1, _, by omega, by simp, HR2⟩, by simp [intOf]; omega⟩
    · obtain rfl : k = n := by omega
      go_wp2_with fail
      refine (one_fits HR.out.i q tIt (by rw [HR.out.m]; have := HQ.out; omega) (by rw [HR.out.l, HR.out.d, List.length_replicate]; have := HQ.out; omega)).mono ?_
      rintro e w2 ⟨rfl, hi⟩
      have HW := Aside.mk (HR.out.wait HQ.out.1 hi)
      clear hi c0 c1 HR
      go_wp2_with fail
      go_loopw [10] (fun i wr => ∃ (j : Nat) (s : St) (r : Nat), j ≤ 300 ∧ i = .int .i64 j ∧ Aside (Wait wa wr wa.heap.size s m q j (m * (k + 1)) r)) (fun i _ => 300 - (intOf i).toNat)
      case atStart => exact ⟨0, _, _, by omega, rfl, HW⟩
      case round =>
        clear HW
        obtain ⟨j, s, r, hj, rfl, HR⟩ := hrel
        have hjt : j < m * (k + 1) := by have := HR.out.p; omega
        have hj2 : j < 204 := by have := HMUL.out; omega
        have hlt2 : (j : Int) < (m : Int) * ((k : Int) + 1) := by rw [HX.out]; omega
        have hwj : IntKind.i64.wrap ((j : Int) + 1) = (j : Int) + 1 := IntWalk.i64_in _ (by omega)
        have hj0 : (0 : Int) ≤ j := by omega
        have hj300 : decide ((j : Int) < 300) = true := decide_eq_true (by omega)
        have HJ : Aside (j < 204) := ⟨hj2⟩
        have c0 := below_cell HR.out.i.below C0.out
        have c1 := below_cell HR.out.i.below C1.out
        clear hjt hj2
        by_cases hjl : j < len
        · obtain ⟨b, off, ha, hcell, hL0, hL1⟩ := HS.out j hjl
          subst ha
          have hcell2 := below_cell HR.out.i.below (below_cell HA.out hcell)
          have hd1 : decide ((j : Int) < (len : Int)) = true := decide_eq_true (by omega)
          have hjl' : (j : Int) < (len : Int) := by omega
          by_cases hpx : L j = q
          · have hd2 : decide (L j = (q : Int)) = true := decide_eq_true hpx
            go_wp2_with fail
            go_quiet (fail)
            generalize hWQ : wr.drewN _ = wq
            have HR3 : Aside (Wait wa wq wa.heap.size s m q j (m * (k + 1)) r) := ⟨by rw [← hWQ]; exact HR.out.put (HR.out.i.drewN _) rfl rfl rfl⟩
            clear hWQ c0 c1 HR hcell2
            obtain ⟨d, T, hn⟩ := exists_next HR3.out.i.ok (HR3.out.any (by have := HQ.out.1; have := HM.out.2; omega))
            have HN := Aside.mk hn
            clear hn
            go_wp2_with fail
            refine (in_pop HR3.out.i HN.out).mono ?_
            rintro e w5 ⟨y, hy, rfl, hi⟩
            have c0 := below_cell hi.below C0.out
            have HI := Aside.mk hi
            have HY := Aside.mk hy
            clear hi hy
            by_cases hT : T = q
            · subst hT
              rcases HR3.out.head HY.out with ⟨_, rfl⟩ | ⟨⟨r', rfl⟩, rfl⟩
              · unfold tIt
                go_wp2_with fail
                refine (awake_calls _).mono ?_
                rintro e w6 ⟨rfl, hb⟩
                have H2 := Aside.mk (HI.out.next hb)
                clear hb
                go_wp2
                go_ret
                exact ⟨rfl, below_then HA.out HA.out.size H2.out.below⟩
              · have HR4 := Aside.mk (HR3.out.own HM.out HQ.out.1 HI.out)
                unfold tAhead
                go_wp2
                exact ⟨⟨j + 1, _, _, by have := HJ.out; omega, by simp, HR4⟩, by simp [intOf]; have := HJ.out; omega⟩
            · have HR4 := Aside.mk (HR3.out.other HM.out HQ.out.1 HN.out hT HI.out)
              have hTi : ¬ T = q := hT
              go_wp2
              exact ⟨⟨j + 1, _, _, by have := HJ.out; omega, by simp, HR4⟩, by simp [intOf]; have := HJ.out; omega⟩
          · have hd2 : decide (L j = (q : Int)) = false := decide_eq_false hpx
            go_wp2_with fail
            go_quiet (fail)
            generalize hWQ : wr.drewN _ = wq
            have HR2 : Aside (Wait wa wq wa.heap.size s m q j (m * (k + 1)) r) := ⟨by rw [← hWQ]; exact HR.out.put (HR.out.i.drewN _) rfl rfl rfl⟩
            have hcell3 : wq.cell? ⟨b, off + j, none⟩ = some (.int .i64 (L j)) := by rw [← hWQ]; exact hcell2
            clear hWQ c0 c1 HR hcell2
            go_wp2_with fail
            refine (one_other HR2.out.i (L j) tOther q hpx).mono ?_
            rintro e w4 ⟨en, s', rfl, hi, hs1, hs2, hs3⟩
            have HR3 := Aside.mk (HR2.out.put hi hs1 hs2 hs3)
            clear hi hs1 hs2 hs3 hcell3 HR2
            obtain ⟨d, T, hn⟩ := exists_next HR3.out.i.ok (HR3.out.any (by have := HQ.out.1; have := HM.out.2; omega))
            have HN := Aside.mk hn
            clear hn
            go_wp2_with fail
            refine (in_pop HR3.out.i HN.out).mono ?_
            rintro e w5 ⟨y, hy, rfl, hi⟩
            have c0 := below_cell hi.below C0.out
            have HI := Aside.mk hi
            have HY := Aside.mk hy
            clear hi hy
            by_cases hT : T = q
            · subst hT
              rcases HR3.out.head HY.out with ⟨_, rfl⟩ | ⟨⟨r', rfl⟩, rfl⟩
              · unfold tIt
                go_wp2_with fail
                refine (awake_calls _).mono ?_
                rintro e w6 ⟨rfl, hb⟩
                have H2 := Aside.mk (HI.out.next hb)
                clear hb
                go_wp2
                go_ret
                exact ⟨rfl, below_then HA.out HA.out.size H2.out.below⟩
              · have HR4 := Aside.mk (HR3.out.own HM.out HQ.out.1 HI.out)
                unfold tAhead
                go_wp2
                exact ⟨⟨j + 1, _, _, by have := HJ.out; omega, by simp, HR4⟩, by simp [intOf]; have := HJ.out; omega⟩
            · have HR4 := Aside.mk (HR3.out.other HM.out HQ.out.1 HN.out hT HI.out)
              have hTi : ¬ T = q := hT
              go_wp2
              exact ⟨⟨j + 1, _, _, by have := HJ.out; omega, by simp, HR4⟩, by simp [intOf]; have := HJ.out; omega⟩
        · have hd1 : decide ((j : Int) < (len : Int)) = false := decide_eq_false (by omega)
          go_wp2_with fail
          go_quiet (fail)
          generalize hWQ : wr.drewN _ = wq
          have HR3 : Aside (Wait wa wq wa.heap.size s m q j (m * (k + 1)) r) := ⟨by rw [← hWQ]; exact HR.out.put (HR.out.i.drewN _) rfl rfl rfl⟩
          clear hWQ c0 c1 HR
          obtain ⟨d, T, hn⟩ := exists_next HR3.out.i.ok (HR3.out.any (by have := HQ.out.1; have := HM.out.2; omega))
          have HN := Aside.mk hn
          clear hn
          go_wp2_with fail
          refine (in_pop HR3.out.i HN.out).mono ?_
          rintro e w5 ⟨y, hy, rfl, hi⟩
          have c0 := below_cell hi.below C0.out
          have HI := Aside.mk hi
          have HY := Aside.mk hy
          clear hi hy
          by_cases hT : T = q
          · subst hT
            rcases HR3.out.head HY.out with ⟨_, rfl⟩ | ⟨⟨r', rfl⟩, rfl⟩
            · unfold tIt
              go_wp2_with fail
              refine (awake_calls _).mono ?_
              rintro e w6 ⟨rfl, hb⟩
              have H2 := Aside.mk (HI.out.next hb)
              clear hb
              go_wp2
              go_ret
              exact ⟨rfl, below_then HA.out HA.out.size H2.out.below⟩
            · have HR4 := Aside.mk (HR3.out.own HM.out HQ.out.1 HI.out)
              unfold tAhead
              go_wp2
              exact ⟨⟨j + 1, _, _, by have := HJ.out; omega, by simp, HR4⟩, by simp [intOf]; have := HJ.out; omega⟩
          · have HR4 := Aside.mk (HR3.out.other HM.out HQ.out.1 HN.out hT HI.out)
            have hTi : ¬ T = q := hT
            go_wp2
            exact ⟨⟨j + 1, _, _, by have := HJ.out; omega, by simp, HR4⟩, by simp [intOf]; have := HJ.out; omega⟩
end Go.Proofs.Ytjhpeelgehchiaa
