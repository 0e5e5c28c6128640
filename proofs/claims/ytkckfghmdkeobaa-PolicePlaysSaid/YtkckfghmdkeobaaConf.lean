/- What slices.IsSorted and police.Conforms answer. Conditions: the slices read as whole numbers. -/
import Derived.Test.YtkckfghmdkeobaaRefP
namespace Go.Proofs.Ytkckfghmdkeobaa
open Go.RowKit
set_option linter.unusedVariables false
/-- A slice of ints: its cells in this world. -/
def IntsAt (w : World) (a : Option Addr) (len : Nat) (L : Nat → Int) : Prop := len ≤ 9223372036854775807 ∧ (0 < len → ∃ b off, a = some ⟨b, off, none⟩ ∧ ∀ k, k < len → w.cell? ⟨b, off + k, none⟩ = some (.int .i64 (L k)) ∧ -9223372036854775808 ≤ L k ∧ L k ≤ 9223372036854775807)
theorem Sl.at_ {w : World} {a : Option Addr} {len : Nat} {L : Nat → Int} (h : Sl w a len 1 isInt L) : IntsAt w a len L := by
  have hm := h.1
  unfold maxLen at hm
  refine ⟨by omega, fun h0 => ?_⟩
  obtain ⟨b, off, ha, hx⟩ := h.2 h0
  refine ⟨b, off, ha, fun k hk => ?_⟩
  obtain ⟨cs, hl, ⟨rfl, h1, h2⟩, hc⟩ := hx k hk
  have := hc 0 (by omega)
  simp at this
  exact ⟨this, h1, h2⟩
theorem IntsAt.below {w w1 : World} {a : Option Addr} {len : Nat} {L : Nat → Int} (h : IntsAt w a len L) (hu : Below w.heap.size w w1) : IntsAt w1 a len L :=
  ⟨h.1, fun h0 => by
    obtain ⟨b, off, ha, hx⟩ := h.2 h0
    exact ⟨b, off, ha, fun k hk => ⟨below_cell hu (hx k hk).1, (hx k hk).2⟩⟩⟩
theorem IntsAt.drewN {w : World} {a : Option Addr} {len : Nat} {L : Nat → Int} (h : IntsAt w a len L) (n : Nat) : IntsAt (w.drewN n) a len L := h
set_option maxHeartbeats 400000 in
theorem isnan_calls (x : Int) (w : World) : Calls Try.prog 32 #[.int .i64 x] w fun e w' => e = .returned (.bool false) ∧ w = w' := by
  go_enter Try.func32, Try.ntmps32
  go_wp2
  go_ret
  exact ⟨rfl, rfl⟩
def lessB (x y : Int) : Bool := decide (x < y)
set_option maxHeartbeats 400000 in
theorem less_calls (x y : Int) (w : World) : Calls Try.prog 29 #[.int .i64 x, .int .i64 y] w fun e w' => e = .returned (.bool (lessB x y)) ∧ w = w' := by
  by_cases h : x < y
  · have HF : Aside (lessB x y = true) := ⟨decide_eq_true h⟩
    go_enter Try.func29, Try.ntmps29
    go_wp2_with (go_at_call 32; refine (isnan_calls _ _).mono ?_; rintro e w' ⟨rfl, rfl⟩)
    go_ret
    exact ⟨by rw [HF.out]; rfl, rfl⟩
  · have HF : Aside (lessB x y = false) := ⟨decide_eq_false h⟩
    have hd : decide (x < y) = false := decide_eq_false h
    go_enter Try.func29, Try.ntmps29
    go_wp2_with (go_at_call 32; refine (isnan_calls _ _).mono ?_; rintro e w' ⟨rfl, rfl⟩)
    go_ret
    exact ⟨by rw [HF.out]; first | rfl | (simp [hd]; done), rfl⟩
def Sorted (len : Nat) (L : Nat → Int) : Prop := ∀ k, k + 1 < len → L k ≤ L (k + 1)
def SortedPost (len : Nat) (L : Nat → Int) (w : World) (e : Ending) (w' : World) : Prop := ∃ (b : Bool) (n : Nat), e = .returned (.bool b) ∧ (b = true ↔ Sorted len L) ∧ w' = w.drewN n
set_option maxHeartbeats 1000000 in
theorem sorted_calls (a : Option Addr) (len cap : Nat) (L : Nat → Int) (w : World) (hs : IntsAt w a len L) : Calls Try.prog 27 #[.slice a len cap] w (SortedPost len L w) := by
  have HS := Aside.mk hs
  have hm := hs.1
  clear hs
  go_enter Try.func27, Try.ntmps27
  go_wp2
  go_loopw [3] (fun i wr => ∃ (j : Int), i = .int .i64 j ∧ -1 ≤ j ∧ j < len ∧ Aside ((∀ k : Nat, j ≤ k → k + 1 < len → L k ≤ L (k + 1)) ∧ ∃ n, wr = w.drewN n)) (fun i _ => (intOf i + 1).toNat)
  case atStart => exact ⟨(len : Int) - 1, rfl, by omega, by omega, ⟨fun k h1 h2 => by omega, 0, rfl⟩⟩
  case round =>
    obtain ⟨j, rfl, hj0, hj1, HR⟩ := hrel
    by_cases hp : 0 < j
    · obtain ⟨n, rfl⟩ : ∃ n : Nat, j = (n : Int) + 1 := ⟨(j - 1).toNat, by omega⟩
      obtain ⟨b, off, ha, hx⟩ := HS.out.2 (by omega)
      subst ha
      obtain ⟨m, hwr⟩ := HR.out.2
      have hc0 : wr.cell? ⟨b, off + n, none⟩ = some (.int .i64 (L n)) := by rw [hwr]; exact (hx n (by omega)).1
      have hc1 : wr.cell? ⟨b, off + (n + 1), none⟩ = some (.int .i64 (L (n + 1))) := by rw [hwr]; exact (hx (n + 1) (by omega)).1
      have HW := Aside.mk hwr
      clear hx hwr
      cases hl : lessB (L (n + 1)) (L n) with
      | true =>
        have HL : Aside (L (n + 1) < L n) := ⟨of_decide_eq_true hl⟩
        have HLB := Aside.mk hl
        clear hl
        go_wp2_with fail
        go_quiet ((go_at_call 29; exact Calls.quiet_of_same ((less_calls _ _ _).mono fun _ _ h => ⟨by rw [h.1, HLB.out], h.2.symm⟩)))
        go_wp2
        go_ret
        exact ⟨false, m + nq, rfl, ⟨fun h => (by cases h), fun h => absurd (h n (by omega)) (by have := HL.out; omega)⟩, by rw [HW.out, World.drewN_drewN]⟩
      | false =>
        have HL : Aside (L n ≤ L (n + 1)) := ⟨by have := of_decide_eq_false hl; omega⟩
        have HLB := Aside.mk hl
        clear hl
        go_wp2_with fail
        go_quiet ((go_at_call 29; exact Calls.quiet_of_same ((less_calls _ _ _).mono fun _ _ h => ⟨by rw [h.1, HLB.out], h.2.symm⟩)))
        go_wp2
        go_roundw
        case rel =>
          refine ⟨(n : Int), by go_num, by omega, by omega, ⟨fun k h1 h2 => ?_, m + nq, by rw [HW.out, World.drewN_drewN]⟩⟩
          by_cases hk : k = n
          · subst hk; exact HL.out
          · exact HR.out.1 k (by omega) h2
        case measure => simp [intOf]; omega
    · obtain ⟨m, hwr⟩ := HR.out.2
      have HW := Aside.mk hwr
      clear hwr
      go_wp2
      go_ret
      exact ⟨true, m, rfl, ⟨fun _ k hk => HR.out.1 k (by omega) hk, fun _ => rfl⟩, HW.out⟩
/-- One frame, by its own. -/
def OkA (r : Rul) (d c : Int) : Prop := 0 ≤ d ∧ c ≤ 1125899906842624 ∧ d ≤ c ∧ c - d ≤ r.jit
def OkAll (r : Rul) (n : Nat) (D C : Nat → Int) : Prop := ∀ i, i < n → OkA r (D i) (C i) ∧ (0 < i → r.per ≤ D i - D (i - 1))
def Conf (r : Rul) (n : Nat) (D : Nat → Int) (m : Nat) (C : Nat → Int) : Prop := r.mayB = true ∧ n = m ∧ Sorted m C ∧ OkAll r n D C
def ConfPost (r : Rul) (n : Nat) (D : Nat → Int) (m : Nat) (C : Nat → Int) (w : World) (e : Ending) (w' : World) : Prop := ∃ b : Bool, e = .returned (.bool b) ∧ (b = true ↔ Conf r n D m C) ∧ Below w.heap.size w w'
theorem conf_no {r : Rul} {n : Nat} {D : Nat → Int} {m : Nat} {C : Nat → Int} {w w' : World} (h : ¬ Conf r n D m C) (hu : Below w.heap.size w w') : ConfPost r n D m C w (.returned (.bool false)) w' := ⟨false, rfl, ⟨fun h1 => (by cases h1), fun h1 => absurd h1 h⟩, hu⟩
theorem conf_yes {r : Rul} {n : Nat} {D : Nat → Int} {m : Nat} {C : Nat → Int} {w w' : World} (h : Conf r n D m C) (hu : Below w.heap.size w w') : ConfPost r n D m C w (.returned (.bool true)) w' := ⟨true, rfl, ⟨fun _ => h, fun _ => rfl⟩, hu⟩
set_option maxRecDepth 100000 in
set_option maxHeartbeats 8000000 in
theorem conf_yes_calls (r : Rul) (a1 : Option Addr) (n cap1 : Nat) (D : Nat → Int) (a2 : Option Addr) (m cap2 : Nat) (C : Nat → Int) (w : World) (hd : IntsAt w a1 n D) (hc : IntsAt w a2 m C) (hr : r.ok) (hnm : n = m) :
    Calls Try.prog 20 #[.agg #[.int .i64 r.smax, .int .i64 r.bag, .int .i64 r.jit, .bool r.fr], .slice a1 n cap1, .slice a2 m cap2] w (ConfPost r n D m C w) := by
  have HR := Aside.mk hr
  have HM := Aside.mk hr.mayB
  have HD := Aside.mk hd
  have HC := Aside.mk hc
  have hn := hd.1
  obtain ⟨p0, p1⟩ := hr.per_le
  have j0 := hr.j0
  have j1 := hr.j1
  subst hnm
  clear hd hc hr
  go_enter Try.func20, Try.ntmps20
  go_wp2_with fail
  have hba : Below w.heap.size w (w.alloc (.cells r.cells 23)) := (Below.refl _ _).alloc (Nat.le_refl _) _
  have hb : Blk (w.alloc (.cells r.cells 23)) w.heap.size 23 r.cells := Blk.new _ _ _
  change Calls _ _ _ (w.alloc (.cells r.cells 23)) _
  generalize w.alloc (.cells r.cells 23) = wa at hba hb ⊢
  refine (rmay_calls r _).mono ?_
  rintro e w1 ⟨rfl, hu⟩
  rw [HM.out]
  have H1 := Aside.mk (And.intro (below_then hba hba.size hu) (hb.below hu))
  clear hba hb hu
  go_wp2_with fail
  refine (sorted_calls _ _ _ _ _ (HC.out.below H1.out.1)).mono ?_
  rintro e w2 ⟨b, q, rfl, hb, rfl⟩
  have H2 : Aside (Below w.heap.size w (w1.drewN q) ∧ Blk (w1.drewN q) w.heap.size 23 r.cells) := ⟨below_drewN H1.out.1 q, H1.out.2⟩
  have HS := Aside.mk hb
  clear hb H1
  generalize w1.drewN q = wb at H2 ⊢
  cases b with
  | false =>
    go_wp2
    go_ret
    exact conf_no (fun h => by have := HS.out.2 h.2.2.1; cases this) H2.out.1
  | true =>
    have HSO := Aside.mk (HS.out.1 rfl)
    clear HS
    go_wp2_with fail
    go_loopw [27] (fun i wr => ∃ (k : Nat), k ≤ n ∧ i = .int .i64 k ∧ Aside (Below w.heap.size w wr ∧ Blk wr w.heap.size 23 r.cells ∧ OkAll r k D C)) (fun i _ => n - (intOf i).toNat)
    case atStart => exact ⟨0, by omega, rfl, H2.out.1, H2.out.2, fun i hi => by omega⟩
    case round =>
      clear H2
      obtain ⟨k, hk, rfl, HT⟩ := hrel
      by_cases hlt : k < n
      · obtain ⟨b1, o1, ha1, hx1⟩ := HD.out.2 (by omega)
        obtain ⟨b2, o2, ha2, hx2⟩ := HC.out.2 (by omega)
        subst ha1 ha2
        have c1 := below_cell HT.out.1 (hx1 k hlt).1
        have c2 := below_cell HT.out.1 (hx2 k hlt).1
        have z2 : wr.cell? ⟨w.heap.size, 2, none⟩ = some (.int .i64 r.jit) := HT.out.2.1.cell 2
        by_cases hbad : D k < 0 ∨ (¬ D k < 0 ∧ 1125899906842624 < C k) ∨ (¬ D k < 0 ∧ ¬ 1125899906842624 < C k ∧ C k < D k) ∨ (¬ D k < 0 ∧ ¬ 1125899906842624 < C k ∧ ¬ C k < D k ∧ r.jit < C k - D k)
        · have NO : Aside (¬ Conf r n D n C) := ⟨fun h => by
            have := (h.2.2.2 k hlt).1
            unfold OkA at this
            omega⟩
          clear hx1 hx2
          rcases hbad with h | ⟨g1, h⟩ | ⟨g1, g2, h⟩ | ⟨g1, g2, g3, h⟩
          all_goals
            go_wp2
            go_ret
            exact conf_no NO.out HT.out.1
        · have g1 : 0 ≤ D k := by omega
          have g2 : C k ≤ 1125899906842624 := by omega
          have g3 : D k ≤ C k := by omega
          have g4 : C k - D k ≤ r.jit := by omega
          have OA : Aside (OkA r (D k) (C k)) := ⟨⟨g1, g2, g3, g4⟩⟩
          clear hbad
          by_cases hk0 : k = 0
          · subst hk0
            clear hx1 hx2
            simp only [Nat.add_zero] at c1 c2
            have hf : decide ((0 : Int) < ((0 : Nat) : Int)) = false := by simp
            have HF : Aside (OkAll r (0 + 1) D C) := ⟨fun i hi => by
              have : i = 0 := by omega
              subst this
              exact ⟨OA.out, fun h => absurd h (Nat.lt_irrefl _)⟩⟩
            go_wp2_with fail
            go_quiet (fail)
            go_wp2
            go_roundw
            case rel => exact ⟨0 + 1, by omega, by go_num, below_drewN HT.out.1 _, HT.out.2.1, HF.out⟩
            case measure => simp [intOf]; omega
          · obtain ⟨j, rfl⟩ : ∃ j : Nat, k = j + 1 := ⟨k - 1, by omega⟩
            have c3 := below_cell HT.out.1 (hx1 j (by omega)).1
            have hj0 := (HT.out.2.2 j (by omega)).1
            have j3 : 0 ≤ D j := hj0.1
            have j4 : D j ≤ 1125899906842624 := by have := hj0.2.1; have := hj0.2.2.1; omega
            have z0 : wr.cell? ⟨w.heap.size, 0, none⟩ = some (.int .i64 r.smax) := HT.out.2.1.cell 0
            have z1 : wr.cell? ⟨w.heap.size, 1, none⟩ = some (.int .i64 r.bag) := HT.out.2.1.cell 1
            have z3 : wr.cell? ⟨w.heap.size, 3, none⟩ = some (.bool r.fr) := HT.out.2.1.cell 3
            clear hx1 hx2 hj0
            have hw1 : IntKind.i64.wrap (D (j + 1) - D j) = D (j + 1) - D j := IntWalk.i64_in _ (by omega)
            have hw2 : IntKind.i64.wrap ((j : Int) + 1 - 1) = (j : Int) := by rw [IntWalk.i64_in _ (by omega)]; omega
            have hw3 : IntKind.i64.wrap (j : Int) = (j : Int) := IntWalk.i64_in _ (by omega)
            have hi0 : (0 : Int) ≤ (j : Int) := by omega
            have hi1 : (j : Int) < (n : Int) := by omega
            by_cases hpp : D (j + 1) - D j < r.per
            · have NO : Aside (¬ Conf r n D n C) := ⟨fun h => by
                have := (h.2.2.2 (j + 1) hlt).2 (by omega)
                simp only [Nat.add_sub_cancel] at this
                omega⟩
              go_wp2_with fail
              go_region_held3 (fun w' => w'.cell? ⟨b1, o1 + j, none⟩ = some (.int .i64 (D j)) ∧ w'.cell? ⟨w.heap.size, 0, none⟩ = some (.int .i64 r.smax) ∧ w'.cell? ⟨w.heap.size, 1, none⟩ = some (.int .i64 r.bag) ∧ w'.cell? ⟨w.heap.size, 2, none⟩ = some (.int .i64 r.jit) ∧ w'.cell? ⟨w.heap.size, 3, none⟩ = some (.bool r.fr))
                (first
                  | go_keep
                  | (go_split_ands
                     refine ⟨?_, ?_, ?_, ?_, ?_⟩ <;> exact below_cell hu (by assumption)))
                (first | (go_at_call 28; refine (rperiod_calls r _ HR.out).mono ?_; rintro e w4 ⟨rfl, hu⟩))
              all_goals
                go_wp2
                go_ret
                exact conf_no NO.out (below_then HT.out.1.drew HT.out.1.size hu)
            · have HF : Aside (OkAll r (j + 1 + 1) D C) := ⟨fun i hi => by
                by_cases hij : i < j + 1
                · exact HT.out.2.2 i hij
                · have : i = j + 1 := by omega
                  subst this
                  exact ⟨OA.out, fun _ => by simp only [Nat.add_sub_cancel]; omega⟩⟩
              go_wp2_with fail
              go_region_held3 (fun w' => w'.cell? ⟨b1, o1 + j, none⟩ = some (.int .i64 (D j)) ∧ w'.cell? ⟨w.heap.size, 0, none⟩ = some (.int .i64 r.smax) ∧ w'.cell? ⟨w.heap.size, 1, none⟩ = some (.int .i64 r.bag) ∧ w'.cell? ⟨w.heap.size, 2, none⟩ = some (.int .i64 r.jit) ∧ w'.cell? ⟨w.heap.size, 3, none⟩ = some (.bool r.fr))
                (first
                  | go_keep
                  | (go_split_ands
                     refine ⟨?_, ?_, ?_, ?_, ?_⟩ <;> exact below_cell hu (by assumption)))
                (first | (go_at_call 28; refine (rperiod_calls r _ HR.out).mono ?_; rintro e w4 ⟨rfl, hu⟩))
              all_goals
                go_wp2
                go_roundw
                case rel => exact ⟨j + 1 + 1, by omega, by go_num, below_then HT.out.1.drew HT.out.1.size hu, (show Blk wr.drew w.heap.size 23 r.cells from HT.out.2.1).below hu, HF.out⟩
                case measure => simp [intOf]; omega
      · have : k = n := by omega
        subst this
        have YES : Aside (Conf r k D k C) := ⟨HM.out, rfl, HSO.out, HT.out.2.2⟩
        go_wp2
        go_ret
        exact conf_yes YES.out HT.out.1
set_option maxRecDepth 100000 in
set_option maxHeartbeats 1000000 in
theorem conf_no_calls (r : Rul) (a1 : Option Addr) (n cap1 : Nat) (D : Nat → Int) (a2 : Option Addr) (m cap2 : Nat) (C : Nat → Int) (w : World) (hr : r.mayB = false) :
    Calls Try.prog 20 #[.agg #[.int .i64 r.smax, .int .i64 r.bag, .int .i64 r.jit, .bool r.fr], .slice a1 n cap1, .slice a2 m cap2] w (ConfPost r n D m C w) := by
  have HM := Aside.mk hr
  have NO : Aside (¬ Conf r n D m C) := ⟨fun h => by have := h.1; rw [hr] at this; cases this⟩
  clear hr
  go_enter Try.func20, Try.ntmps20
  go_wp2_with fail
  have hba : Below w.heap.size w (w.alloc (.cells r.cells 23)) := (Below.refl _ _).alloc (Nat.le_refl _) _
  change Calls _ _ _ (w.alloc (.cells r.cells 23)) _
  generalize w.alloc (.cells r.cells 23) = wa at hba ⊢
  refine (rmay_calls r _).mono ?_
  rintro e w1 ⟨rfl, hu⟩
  rw [HM.out]
  have H1 := Aside.mk (below_then hba hba.size hu)
  clear hba hu
  go_wp2
  go_ret
  exact conf_no NO.out H1.out
set_option maxRecDepth 100000 in
set_option maxHeartbeats 1000000 in
theorem conf_len_calls (r : Rul) (a1 : Option Addr) (n cap1 : Nat) (D : Nat → Int) (a2 : Option Addr) (m cap2 : Nat) (C : Nat → Int) (w : World) (hr : r.ok) (hnm : n ≠ m) :
    Calls Try.prog 20 #[.agg #[.int .i64 r.smax, .int .i64 r.bag, .int .i64 r.jit, .bool r.fr], .slice a1 n cap1, .slice a2 m cap2] w (ConfPost r n D m C w) := by
  have HM := Aside.mk hr.mayB
  have NO : Aside (¬ Conf r n D m C) := ⟨fun h => hnm h.2.1⟩
  have hne : (n != m) = true := by simpa using hnm
  have hne2 : (((n : Nat) : Int) != ((m : Nat) : Int)) = true := by simp; omega
  clear hr
  go_enter Try.func20, Try.ntmps20
  go_wp2_with fail
  have hba : Below w.heap.size w (w.alloc (.cells r.cells 23)) := (Below.refl _ _).alloc (Nat.le_refl _) _
  change Calls _ _ _ (w.alloc (.cells r.cells 23)) _
  generalize w.alloc (.cells r.cells 23) = wa at hba ⊢
  refine (rmay_calls r _).mono ?_
  rintro e w1 ⟨rfl, hu⟩
  rw [HM.out]
  have H1 := Aside.mk (below_then hba hba.size hu)
  clear hba hu
  go_wp2
  go_ret
  exact conf_no NO.out H1.out
theorem conf_calls (r : Rul) (a1 : Option Addr) (n cap1 : Nat) (D : Nat → Int) (a2 : Option Addr) (m cap2 : Nat) (C : Nat → Int) (w : World) (hd : IntsAt w a1 n D) (hc : IntsAt w a2 m C) :
    Calls Try.prog 20 #[.agg #[.int .i64 r.smax, .int .i64 r.bag, .int .i64 r.jit, .bool r.fr], .slice a1 n cap1, .slice a2 m cap2] w (ConfPost r n D m C w) := by
  cases hr : r.mayB with
  | false => exact conf_no_calls r a1 n cap1 D a2 m cap2 C w hr
  | true =>
    by_cases h : n = m
    · exact conf_yes_calls r a1 n cap1 D a2 m cap2 C w hd hc (Rul.ok_of hr) h
    · exact conf_len_calls r a1 n cap1 D a2 m cap2 C w (Rul.ok_of hr) h
end Go.Proofs.Ytkckfghmdkeobaa
