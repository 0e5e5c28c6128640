/- The walk of PoliceHonest, and why frames that conform all pass. Conditions: none. -/
import Derived.Test.YtkckfghmdkeobaaConf
import Derived.Test.YtkckfghmdkeobaaWalkPoliceShare
namespace Go.Proofs.Ytkckfghmdkeobaa
open Go.RowKit
set_option linter.unusedVariables false
theorem credit_ge {s : Acc} {now : Int} (hn : s.now ≤ now) : s.creditOf now = s.r.full ∨ s.left + (s.r.smax * now - s.r.smax * s.now) ≤ s.creditOf now := by
  rw [← Int.mul_sub]
  unfold Acc.creditOf
  split
  · have : now = s.now := by omega
    subst this
    right
    rw [Int.sub_self, Int.mul_zero]
    omega
  split
  · exact .inl rfl
  split
  · exact .inr (Int.le_refl _)
  · exact .inl rfl
/-- Behind i frames that conform. -/
structure Hon (r : Rul) (D C : Nat → Int) (s : Acc) (i : Nat) : Prop where
  rul : s.r = r
  passed : s.passed = i
  dropped : s.dropped = 0
  first : i = 0 → s.now = 0 ∧ s.left = s.r.full
  next : 0 < i → s.now = C (i - 1) ∧ r.smax * C (i - 1) - r.smax * D (i - 1) ≤ s.left
theorem Hon.goes {r : Rul} {n : Nat} {D C : Nat → Int} {s : Acc} {i : Nat} (h : Hon r D C s i) (ok : s.ok) (hc : Conf r n D n C) (hi : i < n) {b : Int} (b0 : 0 ≤ b) (b1 : b ≤ r.smax) : s.err (C i) b = 0 ∧ Hon r D C (s.take (C i) b) (i + 1) := by
  obtain ⟨hm, _, hso, hok⟩ := hc
  have o := Rul.ok_of hm
  obtain ⟨⟨d0, c1, dc, cj⟩, hper⟩ := hok i hi
  have hr := h.rul
  have s0 := o.s0
  have p := o.per_le
  -- the cost
  have cost : s.costOf b ≤ r.smax * r.per := by
    unfold Acc.costOf
    rw [hr]
    refine Int.mul_le_mul_of_nonneg_right ?_ (by omega)
    split <;> omega
  have full : r.smax * r.per + (r.smax * C i - r.smax * D i) ≤ r.full := by
    unfold Rul.full
    rw [Int.mul_add, ← Int.mul_sub]
    have := Int.mul_le_mul_of_nonneg_left cj (show 0 ≤ r.smax by omega)
    omega
  have hnow : s.now ≤ C i := by
    by_cases h0 : i = 0
    · have := (h.first h0).1
      omega
    · have h1 := (h.next (by omega)).1
      have h2 := hso (i - 1) (by omega)
      rw [show i - 1 + 1 = i from by omega] at h2
      omega
  have key : r.smax * r.per + (r.smax * C i - r.smax * D i) ≤ s.creditOf (C i) := by
    rcases credit_ge (s := s) hnow with hg | hg
    · rw [hg, hr]; exact full
    · by_cases h0 : i = 0
      · obtain ⟨e1, e2⟩ := h.first h0
        have := credit_le ok hnow
        have e3 := Int.mul_le_mul_of_nonneg_left hnow (show 0 ≤ r.smax by omega)
        rw [hr] at hg e2
        omega
      · obtain ⟨e1, e2⟩ := h.next (by omega)
        have e4 := hper (by omega)
        have e5 := Int.mul_le_mul_of_nonneg_left e4 (show 0 ≤ r.smax by omega)
        rw [Int.mul_sub] at e5
        rw [hr, e1] at hg
        omega
  have hdc : 0 ≤ r.smax * C i - r.smax * D i := by
    rw [← Int.mul_sub]
    exact Int.mul_nonneg (by omega) (by omega)
  have he : s.err (C i) b = 0 := by
    unfold Acc.err
    rw [if_neg (by unfold Acc.bad; omega), if_neg (by omega), if_neg (by rw [hr]; omega), if_neg (by omega)]
  refine ⟨he, ?_⟩
  rw [Acc.take_zero he]
  refine ⟨hr, ?_, h.dropped, fun h0 => by omega, fun _ => ⟨rfl, ?_⟩⟩
  · show s.passed + 1 = ((i + 1 : Nat) : Int)
    rw [h.passed]
    push_cast
    rfl
  · show r.smax * C (i + 1 - 1) - r.smax * D (i + 1 - 1) ≤ s.creditOf (C i) - s.costOf b
    rw [Nat.add_sub_cancel]
    omega
set_option maxRecDepth 100000 in
set_option maxHeartbeats 4000000 in
theorem policeHonest_yes (r : Rul) (a1 : Option Addr) (n1 cap1 : Nat) (D : Nat → Int) (a2 : Option Addr) (n2 cap2 : Nat) (C : Nat → Int) (a3 : Option Addr) (n3 cap3 : Nat) (G : Nat → Int) (w : World) (hd : IntsAt w a1 n1 D) (hc : IntsAt w a2 n2 C) (hl : IntsAt w a3 n3 G) (h1 : n1 ≤ 100) (h2 : n2 ≤ 100) :
    Calls Try.prog 9 #[.agg #[.int .i64 r.smax, .int .i64 r.bag, .int .i64 r.jit, .bool r.fr], .slice a1 n1 cap1, .agg #[.slice a2 n2 cap2, .slice a3 n3 cap3]] w fun e w' => e = .returned (.bool true) ∧ Below w.heap.size w w' := by
  have HD := Aside.mk hd
  have HC := Aside.mk hc
  have HL := Aside.mk hl
  have m3 := hl.1
  clear hd hc hl
  go_enter Try.func9, Try.ntmps9
  go_wp2_with fail
  have hba : Below w.heap.size w ((w.alloc (.cells r.cells 23)).alloc (.cells #[.slice a2 n2 cap2, .slice a3 n3 cap3] 51)) := ((Below.refl _ _).alloc (Nat.le_refl _) _).alloc (by simp) _
  have hb : Blk ((w.alloc (.cells r.cells 23)).alloc (.cells #[.slice a2 n2 cap2, .slice a3 n3 cap3] 51)) w.heap.size 23 r.cells := (Blk.new _ _ _).alloc _
  change Calls _ _ _ ((w.alloc (.cells r.cells 23)).alloc (.cells #[.slice a2 n2 cap2, .slice a3 n3 cap3] 51)) _
  generalize (w.alloc (.cells r.cells 23)).alloc (.cells #[.slice a2 n2 cap2, .slice a3 n3 cap3] 51) = wa at hba hb ⊢
  have HA := Aside.mk hba
  have HB := Aside.mk hb
  clear hba hb
  refine (conf_calls r _ _ _ _ _ _ _ _ _ (HD.out.below HA.out) (HC.out.below HA.out)).mono ?_
  rintro e w1 ⟨b, rfl, hbc, hu⟩
  have HU := Aside.mk hu
  have HCF := Aside.mk hbc
  have k0 : w1.cell? ⟨w.heap.size, 0, none⟩ = some (.int .i64 r.smax) := (HB.out.below hu).cell 0
  have k1 : w1.cell? ⟨w.heap.size, 1, none⟩ = some (.int .i64 r.bag) := (HB.out.below hu).cell 1
  have k2 : w1.cell? ⟨w.heap.size, 2, none⟩ = some (.int .i64 r.jit) := (HB.out.below hu).cell 2
  have k3 : w1.cell? ⟨w.heap.size, 3, none⟩ = some (.bool r.fr) := (HB.out.below hu).cell 3
  clear hu hbc
  cases b with
  | false =>
    clear k0 k1 k2 k3
    go_wp2_with (go_at_call 11; refine (awake_calls _).mono ?_; rintro e w' ⟨rfl, hb⟩)
    go_ret
    exact ⟨rfl, below_then (below_then HA.out HA.out.size HU.out) (Nat.le_trans HA.out.size HU.out.size) (by assumption)⟩
  | true =>
    have CF := Aside.mk (HCF.out.1 rfl)
    have OK := Aside.mk (Rul.ok_of CF.out.1)
    have hnn : n1 = n2 := CF.out.2.1
    subst hnn
    clear HCF
    go_wp2_with fail
    refine (new_yes r _ OK.out).mono ?_
    rintro e w2 ⟨g, rfl, hg, hb, hu⟩
    have H0 : Aside (At wa g w2 (Acc.new r) 0) := ⟨At.new OK.out hb (below_then HU.out HU.out.size hu)⟩
    have HG : Aside (wa.heap.size ≤ g) := ⟨Nat.le_trans HU.out.size hg⟩
    clear hb hu hg k0 k1 k2 k3
    go_wp2_with fail
    go_loopw [11] (fun i wr => ∃ (k : Nat) (s : Acc), k ≤ n1 ∧ i = .int .i64 k ∧ Aside (At wa g wr s k ∧ Hon r D C s k)) (fun i _ => n1 - (intOf i).toNat)
    case atStart => exact ⟨0, _, by omega, rfl, H0.out, ⟨rfl, rfl, rfl, fun _ => ⟨rfl, rfl⟩, fun h => absurd h (Nat.lt_irrefl _)⟩⟩
    case round =>
      clear H0
      obtain ⟨k, s, hk, rfl, HT⟩ := hrel
      by_cases hlt : k < n1
      · obtain ⟨b2, o2, ha2, hx2⟩ := HC.out.2 (by omega)
        subst ha2
        have c2 := below_cell HT.out.1.below (below_cell HA.out (hx2 k hlt).1)
        have z0 : wr.cell? ⟨w.heap.size, 0, none⟩ = some (.int .i64 r.smax) := (HB.out.below HT.out.1.below).cell 0
        have s0 := OK.out.s0
        clear hx2
        by_cases q1 : k < n3
        · obtain ⟨b3, o3, ha3, hx3⟩ := HL.out.2 (by omega)
          subst ha3
          have c3 := below_cell HT.out.1.below (below_cell HA.out (hx3 k q1).1)
          clear hx3
          by_cases q2 : 0 ≤ G k
          · by_cases q3 : G k < r.smax
            · have HN := Aside.mk (HT.out.2.goes (b := G k) HT.out.1.ok CF.out hlt q2 (by omega))
              go_wp2_with fail
              refine (take_at _ _ _ HT.out.1 HG.out (by omega)).mono ?_
              rintro e w5 ⟨rfl, h⟩
              rw [HN.out.1]
              have HF := Aside.mk (And.intro h HN.out.2)
              clear h
              go_wp2
              go_roundw
              case rel => exact ⟨k + 1, _, by omega, by go_num, HF.out.1, HF.out.2⟩
              case measure => simp [intOf]; omega
            · have HN := Aside.mk (HT.out.2.goes (b := r.smax) HT.out.1.ok CF.out hlt (by omega) (Int.le_refl _))
              go_wp2_with fail
              refine (take_at _ _ _ HT.out.1 HG.out (by omega)).mono ?_
              rintro e w5 ⟨rfl, h⟩
              rw [HN.out.1]
              have HF := Aside.mk (And.intro h HN.out.2)
              clear h
              go_wp2
              go_roundw
              case rel => exact ⟨k + 1, _, by omega, by go_num, HF.out.1, HF.out.2⟩
              case measure => simp [intOf]; omega
          · have HN := Aside.mk (HT.out.2.goes (b := r.smax) HT.out.1.ok CF.out hlt (by omega) (Int.le_refl _))
            have q2' : decide (0 ≤ G k) = false := decide_eq_false q2
            go_wp2_with fail
            refine (take_at _ _ _ HT.out.1 HG.out (by omega)).mono ?_
            rintro e w5 ⟨rfl, h⟩
            rw [HN.out.1]
            have HF := Aside.mk (And.intro h HN.out.2)
            clear h
            go_wp2
            go_roundw
            case rel => exact ⟨k + 1, _, by omega, by go_num, HF.out.1, HF.out.2⟩
            case measure => simp [intOf]; omega
        · have HN := Aside.mk (HT.out.2.goes (b := r.smax) HT.out.1.ok CF.out hlt (by omega) (Int.le_refl _))
          go_wp2_with fail
          refine (take_at _ _ _ HT.out.1 HG.out (by omega)).mono ?_
          rintro e w5 ⟨rfl, h⟩
          rw [HN.out.1]
          have HF := Aside.mk (And.intro h HN.out.2)
          clear h
          go_wp2
          go_roundw
          case rel => exact ⟨k + 1, _, by omega, by go_num, HF.out.1, HF.out.2⟩
          case measure => simp [intOf]; omega
      · have hkn : k = n1 := by omega
        subst hkn
        have HP := Aside.mk (And.intro HT.out.2.passed HT.out.2.dropped)
        go_wp2_with fail
        refine (passed_calls _ s _ HT.out.1.blk).mono ?_
        rintro e w3 ⟨rfl, nq, rfl⟩
        rw [HP.out.1, HP.out.2]
        have H3 := Aside.mk (HT.out.1.drewN nq)
        generalize wr.drewN nq = wb at H3 ⊢
        go_wp2_with fail
        refine (awake_calls _).mono ?_
        rintro e w6 ⟨rfl, hu⟩
        have U6 := Aside.mk hu
        clear hu
        go_wp2
        go_ret
        exact ⟨rfl, below_then (below_then HA.out HA.out.size H3.out.below) (Nat.le_trans HA.out.size H3.out.below.size) U6.out⟩
set_option maxRecDepth 100000 in
set_option maxHeartbeats 1000000 in
theorem policeHonest_out (r : Rul) (a1 : Option Addr) (n1 cap1 : Nat) (a2 : Option Addr) (n2 cap2 : Nat) (a3 : Option Addr) (n3 cap3 : Nat) (w : World) (m1 : n1 ≤ 9223372036854775807) (m2 : n2 ≤ 9223372036854775807) (h : 100 < n1 ∨ (¬ 100 < n1 ∧ 100 < n2)) :
    Calls Try.prog 9 #[.agg #[.int .i64 r.smax, .int .i64 r.bag, .int .i64 r.jit, .bool r.fr], .slice a1 n1 cap1, .agg #[.slice a2 n2 cap2, .slice a3 n3 cap3]] w fun e w' => e = .returned (.bool true) ∧ Below w.heap.size w w' := by
  rcases h with h | ⟨h1, h⟩
  all_goals
    go_enter Try.func9, Try.ntmps9
    go_wp2_with fail
    have hba : Below w.heap.size w ((w.alloc (.cells r.cells 23)).alloc (.cells #[.slice a2 n2 cap2, .slice a3 n3 cap3] 51)) := ((Below.refl _ _).alloc (Nat.le_refl _) _).alloc (by simp) _
    change Calls _ _ _ ((w.alloc (.cells r.cells 23)).alloc (.cells #[.slice a2 n2 cap2, .slice a3 n3 cap3] 51)) _
    generalize (w.alloc (.cells r.cells 23)).alloc (.cells #[.slice a2 n2 cap2, .slice a3 n3 cap3] 51) = wa at hba ⊢
    have HA := Aside.mk hba
    clear hba
    refine (awake_calls _).mono ?_
    rintro e w1 ⟨rfl, hu⟩
    have HU := Aside.mk hu
    clear hu
    go_wp2
    go_ret
    exact ⟨rfl, below_then HA.out HA.out.size HU.out⟩
/-- The last argument: when the frames come, and how long they are. -/
structure How where
  a2 : Option Addr
  n2 : Nat
  cap2 : Nat
  C : Nat → Int
  a3 : Option Addr
  n3 : Nat
  cap3 : Nat
  G : Nat → Int
theorem policeHonest_walk (r : Rul) (a1 : Option Addr) (n1 cap1 : Nat) (D : Nat → Int) (h : How) (w : World) (_ : (-9223372036854775808 ≤ r.smax ∧ r.smax ≤ 9223372036854775807) ∧ (-9223372036854775808 ≤ r.bag ∧ r.bag ≤ 9223372036854775807) ∧ (-9223372036854775808 ≤ r.jit ∧ r.jit ≤ 9223372036854775807)) (hd : Sl w a1 n1 1 isInt D) (hh : IntsAt w h.a2 h.n2 h.C ∧ IntsAt w h.a3 h.n3 h.G) :
    Calls Try.prog 9 #[.agg #[.int .i64 r.smax, .int .i64 r.bag, .int .i64 r.jit, .bool r.fr], .slice a1 n1 cap1, .agg #[.slice h.a2 h.n2 h.cap2, .slice h.a3 h.n3 h.cap3]] w fun e w' => e = .returned (.bool true) ∧ Below w.heap.size w w' := by
  by_cases h1 : 100 < n1 ∨ (¬ 100 < n1 ∧ 100 < h.n2)
  · exact policeHonest_out r a1 n1 cap1 _ _ _ _ _ _ w hd.at_.1 hh.1.1 h1
  · exact policeHonest_yes r a1 n1 cap1 D _ _ _ h.C _ _ _ h.G w hd.at_ hh.1 hh.2 (by omega) (by omega)
end Go.Proofs.Ytkckfghmdkeobaa
