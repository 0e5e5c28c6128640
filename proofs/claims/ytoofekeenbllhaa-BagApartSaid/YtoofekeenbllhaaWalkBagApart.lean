/- The walk of BagApart. Conditions: none. -/
import Derived.Test.YtoofekeenbllhaaWalkBagSoon
namespace Go.Proofs.Ytoofekeenbllhaa
open Go.RowKit
set_option linter.unusedVariables false
attribute [local go_sem] max2_int max_two
/-- After some of the ticks: the state, how many went, how many of them in the interval from lo on, t long. -/
structure ApartRel (w : World) (g : Nat) (b lo t : Int) (k : Nat) (wr : World) (s : Reg) (count went : Int) : Prop where
  blk : Blk wr g 51 s.cells
  ok : s.ok
  hb : s.b = b
  seen : s.seen = s.at_
  cnt : s.cnt = went
  wentB : went ≤ k ∧ 0 ≤ went
  countB : 0 ≤ count ∧ count ≤ went
  first : 0 < count → s.went = true ∧ lo + (count - 1) * per b ≤ s.at_ ∧ (count - 1) * per b < t
  below : Below (w.heap.size) w wr
theorem ApartRel.more {w : World} {g : Nat} {b lo t : Int} {k : Nat} {wr w1 : World} {s : Reg} {count went : Int} (h : ApartRel w g b lo t k wr s count went) (hg : w.heap.size ≤ g) {now : Int} (hb : Blk w1 g 51 (s.take now).cells) (hu : Upon (· = g) wr w1) (he : ¬ s.err now = 0) : ApartRel w g b lo t (k + 1) w1 s count went := by
  have hbl : Below w.heap.size w w1 := h.below.trans (Upon.below (B := w.heap.size) hu (by exact h.below.size) (fun i hi => by omega))
  rw [take_stays he] at hb
  exact ⟨hb, h.ok, h.hb, h.seen, h.cnt, by have := h.wentB; omega, h.countB, h.first, hbl⟩
theorem goes_facts {s : Reg} {now : Int} (h : s.err now = 0) : 0 ≤ now ∧ now ≤ 1125899906842624 ∧ s.seen ≤ now ∧ (s.went = true → s.at_ + per s.b ≤ now) := by
  unfold Reg.err at h
  split at h
  · omega
  split at h
  · omega
  cases hs : s.soon now with
  | true => rw [hs] at h; simp at h
  | false => exact ⟨by omega, by omega, by omega, (when_now hs).2⟩
theorem ApartRel.goes {w : World} {g : Nat} {b lo t : Int} {k : Nat} {wr w1 : World} {s : Reg} {count went : Int} (h : ApartRel w g b lo t k wr s count went) (hg : w.heap.size ≤ g) {now : Int} (hb : Blk w1 g 51 (s.take now).cells) (hu : Upon (· = g) wr w1) (he : s.err now = 0) (hlo : 0 ≤ lo) :
    ApartRel w g b lo t (k + 1) w1 (s.take now) (if lo ≤ now ∧ now - lo < t then count + 1 else count) (went + 1) := by
  have hbl : Below w.heap.size w w1 := h.below.trans (Upon.below (B := w.heap.size) hu (by exact h.below.size) (fun i hi => by omega))
  obtain ⟨n0, n1, n2, n3⟩ := goes_facts he
  have hw := h.wentB
  have hc := h.countB
  have hf := h.first
  rw [h.hb] at n3
  have hp := per_le (h.hb ▸ h.ok.b0) (h.hb ▸ h.ok.b7)
  refine ⟨hb, Reg.take_ok h.ok now, ?_, ?_, ?_, by omega, ?_, ?_, hbl⟩
  · simp only [Reg.take, if_pos he]; exact h.hb
  · simp only [Reg.take, if_pos he]
  · simp only [Reg.take, if_pos he]; rw [h.cnt]
  · split <;> omega
  · simp only [Reg.take, if_pos he]
    split
    · rename_i hin
      intro _
      refine ⟨by first | rfl | trivial, ?_⟩
      by_cases hc0 : 0 < count
      · obtain ⟨f1, f2, f3⟩ := hf hc0
        have := n3 f1
        have e : (count + 1 - 1) * per b = (count - 1) * per b + per b := by rw [show count + 1 - 1 = (count - 1) + 1 from by omega, Int.add_mul]; omega
        rw [e]
        omega
      · have : count = 0 := by omega
        subst this
        simp; omega
    · intro hc0
      obtain ⟨f1, f2, f3⟩ := hf hc0
      have := n3 f1
      exact ⟨by first | rfl | trivial, by omega, f3⟩
theorem ApartRel.drewN {w : World} {g : Nat} {b lo t : Int} {k : Nat} {wr : World} {s : Reg} {count went : Int} (h : ApartRel w g b lo t k wr s count went) (m : Nat) : ApartRel w g b lo t k (wr.drewN m) s count went :=
  ⟨h.blk.drewN m, h.ok, h.hb, h.seen, h.cnt, h.wentB, h.countB, h.first, below_drewN h.below m⟩
theorem ApartRel.bound {w : World} {g : Nat} {b lo t : Int} {k : Nat} {wr : World} {s : Reg} {count went : Int} (h : ApartRel w g b lo t k wr s count went) (ht : 0 ≤ t) : count ≤ boundOf b t := by
  have hp := per_le (h.hb ▸ h.ok.b0) (h.hb ▸ h.ok.b7)
  unfold boundOf
  by_cases hc : 0 < count
  · obtain ⟨_, _, f⟩ := h.first hc
    refine Int.le_ediv_of_mul_le (by omega) ?_
    have e : count * per b = (count - 1) * per b + per b := by conv => lhs; rw [show count = (count - 1) + 1 from by omega]
                                                               rw [Int.add_mul]; omega
    omega
  · have := h.countB
    have := Int.ediv_nonneg (show 0 ≤ t + per b - 1 by omega) (show 0 ≤ per b by omega)
    omega
set_option maxRecDepth 100000 in
set_option maxHeartbeats 1000000 in
theorem bagApart_yes (n : Int) (a : Option Addr) (len cap : Nat) (L : Nat → Int) (x t : Int) (w : World) (hn : 0 ≤ n ∧ n ≤ 7) (hs : Sl w a len 1 isInt L) (hx : -9223372036854775808 ≤ x ∧ x ≤ 9223372036854775807) (ht : 0 ≤ t ∧ t ≤ 1125899906842624) :
    Calls Try.prog 6 #[.int .i64 n, .slice a len cap, .agg #[.int .i64 x, .int .i64 t]] w fun e w' => e = .returned (.bool true) ∧ Below w.heap.size w w' := by
  have HN := Aside.mk hn
  have HT := Aside.mk ht
  have HS := Aside.mk hs.ints
  have hm := hs.1
  unfold maxLen at hm
  clear hn hs
  obtain ⟨t0, t1⟩ := ht
  obtain ⟨x0, x1⟩ := hx
  go_enter Try.func6, Try.ntmps6
  go_wp2_with fail
  have hc0 := (Blk.new w 35 #[.int .i64 x, .int .i64 t]).cell 0
  have hc1 := (Blk.new w 35 #[.int .i64 x, .int .i64 t]).cell 1
  have hba : Below w.heap.size w (w.alloc (.cells #[.int .i64 x, .int .i64 t] 35)) := (Below.refl _ _).alloc (Nat.le_refl _) _
  generalize w.alloc (.cells #[.int .i64 x, .int .i64 t] 35) = wa at hc0 hc1 hba ⊢
  simp at hc0 hc1
  have C0 := Aside.mk hc0
  have C1 := Aside.mk hc1
  have HA := Aside.mk hba
  clear hc0 hc1 hba
  refine (new_yes _ _ HN.out).mono ?_
  rintro e w1 ⟨rfl, hb, hu⟩
  have HR : Aside (ApartRel wa wa.heap.size n (if x < 0 then 0 else x) t 0 w1 (Reg.new n) 0 0) := ⟨⟨hb, Reg.new_ok HN.out, rfl, rfl, rfl, by omega, by omega, by omega, hu⟩⟩
  have c1 := below_cell hu C1.out
  clear hb hu
  go_wp2_with fail
  refine (bound_yes _ _ _ HN.out HT.out).mono ?_
  rintro e w2 ⟨rfl, rfl⟩
  clear c1
  go_wp2_with fail
  go_loopw [11, 12, 13] (fun vc vw i wr => ∃ (k : Nat) (s : Reg) (count went : Int), k ≤ len ∧ k ≤ 100 ∧ i = .int .i64 k ∧ vc = .int .i64 count ∧ vw = .int .i64 went ∧ Aside (ApartRel wa wa.heap.size n (if x < 0 then 0 else x) t k wr s count went)) (fun _ _ i _ => len - (intOf i).toNat)
  case atStart => exact ⟨0, _, 0, 0, by omega, by omega, rfl, rfl, rfl, HR⟩
  case round =>
    clear HR
    obtain ⟨k, s, count, went, hk, hk100, rfl, rfl, rfl, HR⟩ := hrel
    by_cases hlt : k < len
    · by_cases hlt2 : k < 100
      · obtain ⟨b, off, ha, hcell, hL0, hL1⟩ := HS.out k hlt
        subst ha
        have HC := Aside.mk (below_cell HA.out hcell)
        clear hcell
        have hcell := below_cell HR.out.below HC.out
        go_wp2_with fail
        refine (take_calls _ _ _ _ HR.out.blk HR.out.ok (by have := HR.out.cnt; have := HR.out.wentB; omega)).mono ?_
        rintro e w2 ⟨rfl, hb, hu⟩
        clear hcell
        obtain ⟨hw0, hw1⟩ := HR.out.wentB
        obtain ⟨hcc0, hcc1⟩ := HR.out.countB
        cases he : (s.err (L k) == 0) with
        | true =>
          have e0 : s.err (L k) = 0 := by simpa using he
          have HR2 := Aside.mk (HR.out.goes (Nat.le_refl _) hb hu e0 (by split <;> omega))
          obtain ⟨n0, n1, _⟩ := goes_facts e0
          rw [e0]
          clear he e0 hb hu
          have hcell := below_cell HR2.out.below HC.out
          have hca := below_cell HR2.out.below C0.out
          have hcb := below_cell HR2.out.below C1.out
          by_cases hx0 : x < 0
          · have q1 : x ≤ L k := by omega
            by_cases hlt3 : L k < t
            · have hcond : (if x < 0 then 0 else x) ≤ L k ∧ L k - (if x < 0 then 0 else x) < t := by rw [if_pos hx0]; omega
              rw [if_pos hcond] at HR2
              clear hcond
              go_wp2
              go_quiet (fail)
              go_wp2
              go_roundw
              case rel => exact ⟨k + 1, _, _, _, by omega, by omega, by go_num, rfl, rfl, ⟨HR2.out.drewN _⟩⟩
              case measure => simp [intOf]; omega
            · have hcond : ¬ ((if x < 0 then 0 else x) ≤ L k ∧ L k - (if x < 0 then 0 else x) < t) := by rw [if_pos hx0]; omega
              rw [if_neg hcond] at HR2
              clear hcond
              go_wp2
              go_quiet (fail)
              go_wp2
              go_roundw
              case rel => exact ⟨k + 1, _, _, _, by omega, by omega, by go_num, rfl, rfl, ⟨HR2.out.drewN _⟩⟩
              case measure => simp [intOf]; omega
          · by_cases q1 : x ≤ L k
            · by_cases hlt3 : L k - x < t
              · have hcond : (if x < 0 then 0 else x) ≤ L k ∧ L k - (if x < 0 then 0 else x) < t := by rw [if_neg hx0]; omega
                rw [if_pos hcond] at HR2
                clear hcond
                go_wp2
                go_quiet (fail)
                go_wp2
                go_roundw
                case rel => exact ⟨k + 1, _, _, _, by omega, by omega, by go_num, rfl, rfl, ⟨HR2.out.drewN _⟩⟩
                case measure => simp [intOf]; omega
              · have hcond : ¬ ((if x < 0 then 0 else x) ≤ L k ∧ L k - (if x < 0 then 0 else x) < t) := by rw [if_neg hx0]; omega
                rw [if_neg hcond] at HR2
                clear hcond
                go_wp2
                go_quiet (fail)
                go_wp2
                go_roundw
                case rel => exact ⟨k + 1, _, _, _, by omega, by omega, by go_num, rfl, rfl, ⟨HR2.out.drewN _⟩⟩
                case measure => simp [intOf]; omega
            · have hcond : ¬ ((if x < 0 then 0 else x) ≤ L k ∧ L k - (if x < 0 then 0 else x) < t) := by rw [if_neg hx0]; omega
              rw [if_neg hcond] at HR2
              have hd : decide (x ≤ L k) = false := decide_eq_false q1
              clear q1
              clear hcond
              go_wp2
              go_quiet (fail)
              go_wp2
              go_roundw
              case rel => exact ⟨k + 1, _, _, _, by omega, by omega, by go_num, rfl, rfl, ⟨HR2.out.drewN _⟩⟩
              case measure => simp [intOf]; omega
        | false =>
          have e0 : ¬ s.err (L k) = 0 := by simpa using he
          have HR2 := Aside.mk (HR.out.more (Nat.le_refl _) hb hu e0)
          clear e0 hb hu
          go_wp2
          go_roundw
          case rel => exact ⟨k + 1, _, _, _, by omega, by omega, by go_num, rfl, rfl, HR2⟩
          case measure => simp [intOf]; omega
      · have hbd := HR.out.bound t0
        have hcnt : s.cnt = went := HR.out.cnt
        obtain ⟨hw0, hw1⟩ := HR.out.wentB
        obtain ⟨hcc0, hcc1⟩ := HR.out.countB
        have HB := Aside.mk HR.out.below.size
        have hc4 := HR.out.blk.cell 4
        simp [Reg.cells] at hc4
        rw [hcnt] at hc4
        have HC4 := Aside.mk hc4
        clear hc4 hcnt
        go_wp2_with fail
        refine (count_calls _ _ _ HC4.out).mono ?_
        rintro e w2 ⟨rfl, rfl⟩
        go_wp2_with fail
        refine (awake_calls _).mono ?_
        rintro e w6 ⟨rfl, hu⟩
        have U6 := Aside.mk hu
        clear hu
        go_wp2
        go_ret
        exact ⟨rfl, below_then (below_then HA.out HA.out.size HR.out.below) (Nat.le_trans HA.out.size HB.out) U6.out⟩
    · have hbd := HR.out.bound t0
      have hcnt : s.cnt = went := HR.out.cnt
      obtain ⟨hw0, hw1⟩ := HR.out.wentB
      obtain ⟨hcc0, hcc1⟩ := HR.out.countB
      have HB := Aside.mk HR.out.below.size
      have hc4 := HR.out.blk.cell 4
      simp [Reg.cells] at hc4
      rw [hcnt] at hc4
      have HC4 := Aside.mk hc4
      clear hc4 hcnt
      go_wp2_with fail
      refine (count_calls _ _ _ HC4.out).mono ?_
      rintro e w2 ⟨rfl, rfl⟩
      go_wp2_with fail
      refine (awake_calls _).mono ?_
      rintro e w6 ⟨rfl, hu⟩
      have U6 := Aside.mk hu
      clear hu
      go_wp2
      go_ret
      exact ⟨rfl, below_then (below_then HA.out HA.out.size HR.out.below) (Nat.le_trans HA.out.size HB.out) U6.out⟩
set_option maxRecDepth 100000 in
set_option maxHeartbeats 1000000 in
theorem bagApart_no (n : Int) (a : Option Addr) (len cap : Nat) (x t : Int) (w : World) (hn : ¬ (0 ≤ n ∧ n ≤ 7)) :
    Calls Try.prog 6 #[.int .i64 n, .slice a len cap, .agg #[.int .i64 x, .int .i64 t]] w fun e w' => e = .returned (.bool true) ∧ Below w.heap.size w w' := by
  have HN := Aside.mk hn
  have HF : Aside (¬ (0 ≤ n ∧ n ≤ 7) ∨ ¬ (0 ≤ t ∧ t ≤ 1125899906842624)) := ⟨.inl hn⟩
  clear hn
  go_enter Try.func6, Try.ntmps6
  go_wp2_with fail
  have hc1 := (Blk.new w 35 #[.int .i64 x, .int .i64 t]).cell 1
  have hba : Below w.heap.size w (w.alloc (.cells #[.int .i64 x, .int .i64 t] 35)) := (Below.refl _ _).alloc (Nat.le_refl _) _
  generalize w.alloc (.cells #[.int .i64 x, .int .i64 t] 35) = wa at hc1 hba ⊢
  simp at hc1
  have HA := Aside.mk hba
  clear hba
  refine (new_no _ _ HN.out).mono ?_
  rintro e w1 ⟨rfl, rfl⟩
  go_wp2_with fail
  refine (bound_no _ _ _ HF.out).mono ?_
  rintro e w2 ⟨rfl, rfl⟩
  go_wp2_with (go_at_call 11; refine (awake_calls _).mono ?_; rintro e w' ⟨rfl, hb⟩)
  go_ret
  exact ⟨rfl, below_then HA.out HA.out.size (by assumption)⟩
set_option maxRecDepth 100000 in
set_option maxHeartbeats 1000000 in
theorem bagApart_out (n : Int) (a : Option Addr) (len cap : Nat) (x t : Int) (w : World) (hn : 0 ≤ n ∧ n ≤ 7) (ht : ¬ (0 ≤ t ∧ t ≤ 1125899906842624)) :
    Calls Try.prog 6 #[.int .i64 n, .slice a len cap, .agg #[.int .i64 x, .int .i64 t]] w fun e w' => e = .returned (.bool true) ∧ Below w.heap.size w w' := by
  have HN := Aside.mk hn
  have HF : Aside (¬ (0 ≤ n ∧ n ≤ 7) ∨ ¬ (0 ≤ t ∧ t ≤ 1125899906842624)) := ⟨.inr ht⟩
  clear hn ht
  go_enter Try.func6, Try.ntmps6
  go_wp2_with fail
  have hc1 := (Blk.new w 35 #[.int .i64 x, .int .i64 t]).cell 1
  have hba : Below w.heap.size w (w.alloc (.cells #[.int .i64 x, .int .i64 t] 35)) := (Below.refl _ _).alloc (Nat.le_refl _) _
  generalize w.alloc (.cells #[.int .i64 x, .int .i64 t] 35) = wa at hc1 hba ⊢
  simp at hc1
  have HA := Aside.mk hba
  have C1 := Aside.mk hc1
  clear hba hc1
  refine (new_yes _ _ HN.out).mono ?_
  rintro e w1 ⟨rfl, hb, hu⟩
  have HU := Aside.mk hu
  have hc1 := below_cell hu C1.out
  clear hb hu
  go_wp2_with fail
  refine (bound_no _ _ _ HF.out).mono ?_
  rintro e w2 ⟨rfl, rfl⟩
  clear hc1
  go_wp2_with (go_at_call 11; refine (awake_calls _).mono ?_; rintro e w' ⟨rfl, hb⟩)
  go_ret
  exact ⟨rfl, below_then (below_then HA.out HA.out.size HU.out) (Nat.le_trans HA.out.size HU.out.size) (by assumption)⟩
theorem bagApart_walk (n : Int) (a : Option Addr) (len cap : Nat) (L : Nat → Int) (x t : Int) (w : World) (_ : -9223372036854775808 ≤ n ∧ n ≤ 9223372036854775807) (hs : Sl w a len 1 isInt L) (hx : -9223372036854775808 ≤ x ∧ x ≤ 9223372036854775807) (_ : -9223372036854775808 ≤ t ∧ t ≤ 9223372036854775807) :
    Calls Try.prog 6 #[.int .i64 n, .slice a len cap, .agg #[.int .i64 x, .int .i64 t]] w fun e w' => e = .returned (.bool true) ∧ Below w.heap.size w w' := by
  by_cases hn : 0 ≤ n ∧ n ≤ 7
  · by_cases h : 0 ≤ t ∧ t ≤ 1125899906842624
    · exact bagApart_yes n a len cap L x t w hn hs hx h
    · exact bagApart_out n a len cap x t w hn h
  · exact bagApart_no n a len cap x t w hn
end Go.Proofs.Ytoofekeenbllhaa
