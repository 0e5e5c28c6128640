/- The walk of the statement. Conditions: that the machine's calls are the program's, that the self-check answers yes. -/
import Derived.Test.YtdgjcjhicbgfaaaGreatVe
import Derived.Test.YtdgjcjhicbgfaaaGreatMa
import Derived.Test.YtdgjcjhicbgfaaaGreatCm
set_option linter.unusedVariables false
set_option linter.unusedSimpArgs false
set_option linter.unusedSimpArgs false
set_option linter.unusedVariables false
set_option maxRecDepth 20000
namespace Go.Proofs.YtdgjcjhicbgfaaaGreat
open Go.RowKit Go.Lib

theorem TopAt.end_ {R : (Nat → Prop) → World → Prop} {B k off cap0 : Nat} {gv : Value} {n : Nat} {Z : Nat → Int} {TA TB : Nat → ByteArray} {gs : List ByteArray} {w : World} (h : TopAt R B (.slice (some ⟨k, off, none⟩) n cap0) n Z TA TB gs gv w) {j : Nat} (hj : j < n) :
    w.cell? ⟨k, off + j * 5 + 2, none⟩ = some (.int .i64 (Z j + (12500 * (j : Int) + 20))) := by
  obtain ⟨k', off', he, h1, _⟩ := h.cells hj
  cases he
  exact h1
theorem Bf.move {w w' : World} {B : Nat} {bs : List UInt8} {g n q : Nat} (h : Bf w B bs (.slice (some ⟨g, 0, none⟩) n q)) (e : w'.heap[g]? = w.heap[g]?) : Bf w' B bs (.slice (some ⟨g, 0, none⟩) n q) := by
  obtain ⟨g', cap, cs, fr, he, h1, h2, h3⟩ := h.out
  cases he
  exact ⟨g, q, cs, fr, rfl, h1, e.trans h2, h3⟩
theorem Bf.gbs {w : World} {B : Nat} {bs : List UInt8} {g n q : Nat} (h : Bf w B bs (.slice (some ⟨g, 0, none⟩) n q)) : B ≤ g ∧ g < w.heap.size := by
  obtain ⟨g', cap, cs, fr, he, h1, h2, _⟩ := h.out
  cases he
  exact ⟨h1, (Array.getElem?_eq_some_iff.1 h2).1⟩
/-- What a region that draws its order reads: a number, and a row of bytes as a text. -/
theorem two_keep {w w' : World} {B gb n qb kk o : Nat} {a : ByteArray} {v : Value} (hbf : Bf w B a.data.toList (.slice (some ⟨gb, 0, none⟩) n qb)) (hc : w.cell? ⟨kk, o, none⟩ = some v) (h1 : w'.heap[gb]? = w.heap[gb]?) (h2 : w'.heap[kk]? = w.heap[kk]?) :
    w'.cell? ⟨kk, o, none⟩ = some v ∧ (convert 45 9 (.slice (some ⟨gb, 0, none⟩) n qb)).run Tryz.prog w' = .ok (.string a) w' :=
  ⟨(World.cell?_of_block h2).trans hc, conv_back (hbf.move h1)⟩
theorem set3_block (w : World) {z b : Nat} (h : b ≠ z) (v0 v1 v2 : Value) : (((w.setCell ⟨z, 0, none⟩ v0).setCell ⟨z, 1, none⟩ v1).setCell ⟨z, 2, none⟩ v2).heap[b]? = w.heap[b]? :=
  ((Below.heap_setCell _ ⟨z, 2, none⟩ v2 b h).trans (Below.heap_setCell _ ⟨z, 1, none⟩ v1 b h)).trans (Below.heap_setCell w ⟨z, 0, none⟩ v0 b h)
set_option maxHeartbeats 8000000 in
theorem top_walk (hC : COk C1) (hA : isTrue1 (callA C1 3000 7 [] ⟨.nil, 0⟩) = true) (a : Option Addr) (len cap : Nat) (L : Nat → ByteArray) (fr h0 h1 : Int) (w : World) (hs : Sl w a len 1 isStr L)
    (hf : -9223372036854775808 ≤ fr ∧ fr ≤ 9223372036854775807) (hh0 : -9223372036854775808 ≤ h0 ∧ h0 ≤ 9223372036854775807) (hh1 : -9223372036854775808 ≤ h1 ∧ h1 ≤ 9223372036854775807) :
    Calls Tryz.prog 3 #[.slice a len cap, .int .i64 fr, .agg #[.int .i64 h0, .int .i64 h1]] w fun e w' => e = .returned (.bool true) ∧ Below w.heap.size w w' := by
  have HS := Aside.mk hs
  have HAW : Aside (∀ W : World, Calls Tryz.prog 7 #[] W fun e w' => e = .returned (.bool true) ∧ Below W.heap.size W w') := ⟨fun W => awake_calls hC hA W⟩
  have HBU : Aside (∀ W : World, Calls Tryz.prog 4 #[.agg #[.int .i64 0, .int .i64 120, .int .i64 0]] W _) := ⟨fun W => built_ok hC W⟩
  clear hs hA
  go_enter Tryz.func3, Tryz.ntmps3
  go_wp2_with (fail)
  have hbox := Blk.new w 23 #[.int .i64 h0, .int .i64 h1]
  have hbel : Below w.heap.size w (w.alloc (.cells #[.int .i64 h0, .int .i64 h1] 23)) := (Below.refl _ _).alloc (Nat.le_refl _) _
  have hsz : (w.alloc (.cells #[.int .i64 h0, .int .i64 h1] 23)).heap.size = w.heap.size + 1 := by simp
  obtain ⟨p, hp⟩ : ∃ p, p = w.heap.size := ⟨_, rfl⟩
  rw [← hp] at hbox hsz ⊢
  generalize w.alloc (.cells #[.int .i64 h0, .int .i64 h1] 23) = W at *
  have HPE := Aside.mk hp
  clear hp
  refine (HBU.out W).mono ?_
  rintro e w1 ⟨a1, a2, a3, a4, c3, c4, rfl, hB, hb1⟩
  have HB := Aside.mk hB
  clear hB
  go_wp2_with (fail)
  have hC7 := Blk.new w1 29 #[.int .i64 3, .slice a1 3 3, .int .i64 1000, .slice a2 3 3, .slice a3 1 c3, .slice a4 4 c4]
  have HBS : Aside (W.heap.size ≤ w1.heap.size) := ⟨hb1.size⟩
  have hb1' := hb1.alloc hb1.size (.cells #[.int .i64 3, .slice a1 3 3, .int .i64 1000, .slice a2 3 3, .slice a3 1 c3, .slice a4 4 c4] 29)
  replace HB := Aside.mk (HB.out.grow (Grow.push w1 (.cells #[.int .i64 3, .slice a1 3 3, .int .i64 1000, .slice a2 3 3, .slice a3 1 c3, .slice a4 4 c4] 29)))
  have HB2 : Aside (CfgAt W.heap.size #[.int .i64 3, .slice a1 3 3, .int .i64 1000, .slice a2 3 3, .slice a3 1 c3, .slice a4 4 c4] (fun k => k < w1.heap.size) (w1.alloc (.cells #[.int .i64 3, .slice a1 3 3, .int .i64 1000, .slice a2 3 3, .slice a3 1 c3, .slice a4 4 c4] 29))) := HB
  clear HB hb1
  obtain ⟨g, hg⟩ : ∃ g, g = w1.heap.size := ⟨_, rfl⟩
  rw [← hg] at hC7 HB2 ⊢
  have HGB : Aside (W.heap.size ≤ g) := ⟨by rw [hg]; exact HBS.out⟩
  generalize w1.alloc (.cells #[.int .i64 3, .slice a1 3 3, .int .i64 1000, .slice a2 3 3, .slice a3 1 c3, .slice a4 4 c4] 29) = w2 at *
  clear hg
  refine (tx_ok hC HB2.out).mono ?_
  rintro e w3 ⟨tb, tf, rfl, hT, hu, hb3⟩
  have HT := Aside.mk hT
  have hC8 := hu.blk hC7 (by omega)
  obtain ⟨c0, c1, c2, c3', c4', c5⟩ : w3.cell? ⟨g, 0, none⟩ = some (.int .i64 3) ∧ w3.cell? ⟨g, 1, none⟩ = some (.slice a1 3 3) ∧ w3.cell? ⟨g, 2, none⟩ = some (.int .i64 1000) ∧ w3.cell? ⟨g, 3, none⟩ = some (.slice a2 3 3) ∧ w3.cell? ⟨g, 4, none⟩ = some (.slice a3 1 c3) ∧ w3.cell? ⟨g, 5, none⟩ = some (.slice a4 4 c4) := ⟨hC8.cell 0, hC8.cell 1, hC8.cell 2, hC8.cell 3, hC8.cell 4, hC8.cell 5⟩
  have HW3 := Aside.mk (hb1'.trans hb3)
  clear hT hu hC7 hC8 hb1' hb3 HB2
  go_wp2_with (fail)
  refine (rx_ok hC HT.out).mono ?_
  rintro e w4 ⟨rb, rf, rfl, hS, hb4⟩
  have HS0 := Aside.mk hS
  have HW4 := Aside.mk (HW3.out.trans hb4)
  have HBX := Aside.mk hbox
  have HBE := Aside.mk hbel
  have HSZ := Aside.mk hsz
  clear hS hb4 HW3 HT c0 c1 c2 c3' c4' c5 hbox hbel hsz HBU
  have hlen : len ≤ maxLen := HS.out.1
  by_cases h10 : 10 < len
  · have h10i : (10 : Int) < (len : Int) := by omega
    go_wp2_with (go_at_call 7; refine (HAW.out _).mono ?_; rintro e w5 ⟨rfl, h5⟩; have H5 := Aside.mk h5; clear h5)
    go_ret
    exact ⟨rfl, below_then HBE.out HBE.out.size (below_then HW4.out HW4.out.size H5.out)⟩
  have h10i : ¬ (10 : Int) < (len : Int) := by omega
  have hlen10 : len ≤ 10 := by omega
  go_wp2_with (fail)
  have HI0 : Aside (SendAt W.heap.size 0 ((List.range 0).map L) (.pointer (some ⟨tb, tf, none⟩)) (.pointer (some ⟨rb, rf, none⟩)) w4 ∧ Below W.heap.size W w4) := ⟨HS0.out, HW4.out⟩
  clear HS0 HW4
  go_loopw [12] (fun i wr => ∃ k : Nat, k ≤ len ∧ i = .int .i64 k ∧ Aside (SendAt W.heap.size k ((List.range k).map L) (.pointer (some ⟨tb, tf, none⟩)) (.pointer (some ⟨rb, rf, none⟩)) wr ∧ Below W.heap.size W wr)) (fun i _ => len - (intOf i).toNat)
  case atStart => exact ⟨0, by omega, rfl, HI0⟩
  case round =>
    obtain ⟨k, hk, rfl, HI⟩ := hrel
    by_cases hlt : k < len
    · obtain ⟨b, off, rfl, hcell⟩ := HS.out.strs k hlt
      have hW : Below w.heap.size w wr := below_then HBE.out HBE.out.size HI.out.2
      have hc : wr.cell? ⟨b, off + k, none⟩ = some (.string (L k)) := below_cell hW hcell
      have HWB := Aside.mk hW
      have hki : (k : Int) < (len : Int) := by omega
      have hk0 : (0 : Int) ≤ (k : Int) := by omega
      clear hW hcell
      by_cases h100 : 100 < (L k).size
      · have h100i : (100 : Int) < ((L k).size : Int) := by omega
        go_wp2_with (go_at_call 7; refine (HAW.out _).mono ?_; rintro e w5 ⟨rfl, h5⟩; have H5 := Aside.mk h5; clear h5)
        go_ret
        exact ⟨rfl, below_then HWB.out HWB.out.size H5.out⟩
      · have h100i : ¬ (100 : Int) < ((L k).size : Int) := by omega
        have HSN : Aside (Calls Tryz.prog 8 #[.pointer (some ⟨tb, tf, none⟩), .int .i64 0, .int .i64 10, .string (L k)] wr fun e w' => e = .returned (.int .i64 0) ∧ SendAt W.heap.size (k + 1) ((List.range k).map L ++ [L k]) (.pointer (some ⟨tb, tf, none⟩)) (.pointer (some ⟨rb, rf, none⟩)) w' ∧ Below W.heap.size wr w') := ⟨send_ok hC HI.out.1 (by omega) (by omega)⟩
        go_wp2_with (go_at_call 8; refine HSN.out.mono ?_; rintro e w5 ⟨rfl, h5, h6⟩; have H5 := Aside.mk (And.intro h5 (HI.out.2.trans h6)); clear h5 h6)
        go_roundw
        case rel => exact ⟨k + 1, by omega, by go_num, by rw [List.range_succ, List.map_append]; exact H5⟩
        case measure => simp [intOf]; omega
    · have : k = len := by omega
      subst this
      have hki : ¬ (k : Int) < (k : Int) := by omega
      go_wp2_with (fail)
      have HPA := Aside.mk (pass_ok hC HI.out.1 hlen10)
      have HIB := Aside.mk HI.out.2
      clear HI HI0
      refine HPA.out.mono ?_
      rintro e w6 ⟨ov, L0, rfl, hO, hR, hL0, hb6⟩
      clear HPA
      have HRX := Aside.mk hR
      have HLB := Aside.mk hL0
      have HB6 := Aside.mk (HIB.out.trans hb6)
      clear hR hL0 hb6 HIB
      obtain ⟨Z, TA, TB, hOC, hZW⟩ := outs_choose hO
      have HZW := Aside.mk hZW
      obtain ⟨A0, cap0, hov⟩ : ∃ A0 cap0, ov = .slice A0 k cap0 := by
        rcases hOC with ⟨h1, h2⟩ | ⟨kk, off, c, h1, _⟩
        · subst h1
          exact ⟨none, 0, h2⟩
        · exact ⟨_, c, h1⟩
      subst hov
      obtain ⟨x, hx10, hxe⟩ := which_one fr (IntKind.u8.wrap h1) k hlen10
      have HX := Aside.mk (And.intro hx10 hxe)
      obtain ⟨tb8, ht8, htz⟩ := turn_byte h1
      have HTB := Aside.mk (And.intro ht8 htz)
      clear ht8 htz
      have HT0 : Aside (TopAt (fun L w => RecvAt W.heap.size x 0 (.pointer (some ⟨rb, rf, none⟩)) L w) W.heap.size (.slice A0 k cap0) k Z TA TB (gsOf L x 0) (.slice none 0 0) w6 ∧ Below W.heap.size W w6) := ⟨⟨L0, HRX.out x, HLB.out, hOC, .inl ⟨rfl, rfl⟩, HB6.out.size, fun g hg => by cases hg⟩, HB6.out⟩
      clear hO hOC hZW hx10 hxe HRX HLB HB6
      go_wp2_with (fail)
      go_loopw [15, 16] (fun g i wr => ∃ j : Nat, j ≤ k ∧ i = .int .i64 j ∧ (∃ A m q, g = .slice A m q) ∧ Aside (TopAt (fun L w => RecvAt W.heap.size x j (.pointer (some ⟨rb, rf, none⟩)) L w) W.heap.size (.slice A0 k cap0) k Z TA TB (gsOf L x j) g wr ∧ Below W.heap.size W wr)) (fun _ i _ => k - (intOf i).toNat)
      case atStart => exact ⟨0, by omega, rfl, ⟨_, _, _, rfl⟩, HT0⟩
      case round =>
        obtain ⟨j, hj, rfl, ⟨A, m, q, rfl⟩, HI⟩ := hrel
        by_cases hlt : j < k
        · have hji : (j : Int) < (k : Int) := by omega
          have hj0 : (0 : Int) ≤ (j : Int) := by omega
          go_wp2_with (fail)
          have HIN : Aside (InAt W.heap.size x j (.pointer (some ⟨rb, rf, none⟩)) (.slice A0 k cap0) k Z TA TB L h0 tb8 0 (.slice A m q) wr ∧ Below W.heap.size W wr) := ⟨⟨.inl ⟨rfl, HI.out.1⟩⟩, HI.out.2⟩
          clear HI HT0
          go_loopw [15, 17] (fun g i wr => ∃ s : Nat, s ≤ 2 ∧ i = .int .i64 s ∧ (∃ A m q, g = .slice A m q) ∧ Aside (InAt W.heap.size x j (.pointer (some ⟨rb, rf, none⟩)) (.slice A0 k cap0) k Z TA TB L h0 tb8 s g wr ∧ Below W.heap.size W wr)) (fun _ i _ => 2 - (intOf i).toNat)
          case atStart => exact ⟨0, by omega, rfl, ⟨_, _, _, rfl⟩, HIN⟩
          case round =>
            obtain ⟨s, hs2, rfl, ⟨A, m, q, rfl⟩, HI⟩ := hrel
            rcases (show s = 2 ∨ s = 1 ∨ s = 0 by omega) with rfl | rfl | rfl
            · go_wp2_with (fail)
              go_roundw
              case rel => exact ⟨j + 1, by omega, by go_num, ⟨_, _, _, rfl⟩, ⟨HI.out.1.two, HI.out.2⟩⟩
              case measure => simp [intOf]; omega
            · have HZ := Aside.mk HI.out.1.one
              have HBW := Aside.mk HI.out.2
              obtain ⟨kk, off, rfl, e2, e3, e4⟩ := HI.out.1.one.cells hlt
              have e5 : wr.cell? ⟨kk, off + j * 5 + 3 + 1, none⟩ = some (.string (TB j)) := e4
              have p0 : wr.cell? ⟨p, 0, none⟩ = some (.int .i64 h0) := (World.cell?_of_block (HI.out.2.block p (by have := HSZ.out; omega))).trans (HBX.out.cell 0)
              have p1 : wr.cell? ⟨p, 1, none⟩ = some (.int .i64 h1) := (World.cell?_of_block (HI.out.2.block p (by have := HSZ.out; omega))).trans (HBX.out.cell 1)
              obtain ⟨n, gb, qb, wb, hne, hconv, hbb, hbf⟩ := conv_text (TB j) wr
              have HBB := Aside.mk hbb
              have HBF := Aside.mk hbf
              have HNE := Aside.mk hne
              have b0 := below_cell hbb p0
              have b1 := below_cell hbb p1
              have b2 := below_cell hbb e2
              have HSE : Aside (64 ≤ n ∧ n ≤ 147) := ⟨by rw [hne]; exact (HZW.out j hlt).2.len.2⟩
              have hn0 : 0 < n := by have := HSE.out; omega
              have hn0i : (0 : Int) < (n : Int) := by omega
              have hnz : ¬ (n : Int) = 0 := by omega
              clear hbb hbf HI hne
              go_upto_region 25 with (fail)
              go_cut [19, 140] (fun t v wx => t = .int .u8 (tb8.toNat : Int) ∧ (∃ bb : Bool, v = .bool bb ∧ Aside (bb = decide (j = x))) ∧ wx = wb)
              case first =>
                --L
                have HT8 : Aside (h1 % 256 = (tb8.toNat : Int)) := ⟨by rw [← HTB.out.1, IntKind.wrap_u8]⟩
                by_cases hjx : j = x
                · obtain ⟨hfr, htn⟩ := (HX.out.2 j hlt).1 hjx
                  have HD : Aside (true = decide (j = x)) := ⟨(decide_eq_true hjx).symm⟩
                  clear hjx
                  subst hfr
                  have htn2 : ¬ h1 % 256 = 0 := by rw [IntKind.wrap_u8] at htn; exact htn
                  have htn3 : ¬ IntKind.u8.wrap h1 = 0 := htn
                  go_wp2_with (fail)
                  go_meet
                  exact ⟨by rw [HT8.out], ⟨true, by try simp [htn2], HD⟩, rfl⟩
                · have hno : ¬ ((j : Int) = fr ∧ IntKind.u8.wrap h1 ≠ 0) := fun h => hjx ((HX.out.2 j hlt).2 h)
                  have HD : Aside (false = decide (j = x)) := ⟨(decide_eq_false hjx).symm⟩
                  clear hjx
                  by_cases hfr : (j : Int) = fr
                  · have htn3 : IntKind.u8.wrap h1 = 0 := Classical.byContradiction fun h => hno ⟨hfr, h⟩
                    have htn2 : h1 % 256 = 0 := by rw [IntKind.wrap_u8] at htn3; exact htn3
                    have HT9 : Aside ((0 : Int) = (tb8.toNat : Int)) := ⟨by rw [← HT8.out, htn2]⟩
                    subst hfr
                    clear hno
                    go_wp2_with (fail)
                    go_meet
                    exact ⟨by first | rw [HT8.out] | rw [HT9.out], ⟨false, by try simp [htn2], HD⟩, rfl⟩
                  · clear hno
                    go_wp2_with (fail)
                    go_meet
                    exact ⟨by rw [HT8.out], ⟨false, by try simp, HD⟩, rfl⟩
                --E
              case rest =>
                obtain ⟨rfl, ⟨bb, rfl, HBD⟩, rfl⟩ := hcut
                go_upto_if 140 with (fail)
                go_cut [18] (fun v wx => v = .slice (some ⟨gb, 0, none⟩) n qb ∧ Aside (Bf wx wr.heap.size (sent j x h0 tb8 (TB j)).data.toList (.slice (some ⟨gb, 0, none⟩) n qb) ∧ Below wr.heap.size wr wx))
                case first =>
                  --L
                  cases bb with
                  | true =>
                    have hjx : j = x := of_decide_eq_true HBD.out.symm
                    have HSN := Aside.mk (sent_bad (h0 := h0) (t := tb8) (a := TB j) hjx)
                    obtain ⟨at_, c, hat, hatl, hcl, hfz, hbf2, hbl2⟩ := chg_at HBF.out HNE.out h0 hn0 tb8 hh0 HSE.out.2
                    have HB2 := Aside.mk hbf2
                    have HB3 := Aside.mk (HBB.out.trans hbl2)
                    clear hjx hbf2 hbl2
                    go_wp2_with (fail)
                    go_meet
                    exact ⟨rfl, by rw [HSN.out]; exact ⟨HB2.out, HB3.out⟩⟩
                  | false =>
                    have HSN := Aside.mk (sent_good (h0 := h0) (t := tb8) (a := TB j) (of_decide_eq_false HBD.out.symm))
                    go_wp2_with (fail)
                    go_meet
                    exact ⟨rfl, by rw [HSN.out]; exact ⟨HBF.out, HBB.out⟩⟩
                  --E
                case rest =>
                  obtain ⟨rfl, HC⟩ := hcut
                  clear b0 b1 HBF HBB
                  have b3 := below_cell HC.out.2 e2
                  clear b2
                  obtain ⟨sx, hsx⟩ : ∃ sx, sx = sent j x h0 tb8 (TB j) := ⟨_, rfl⟩
                  have H10 : Aside (∀ V : World, Below wr.heap.size wr V → Calls Tryz.prog 10 #[.pointer (some ⟨rb, rf, none⟩), .int .i64 (IntKind.i64.wrap (Z j + (12500 * (j : Int) + 20) + 1)), .int .i64 1, .string sx] V fun e w' => Answers false (L j) e ∧ TopK (fun L w => RecvAt W.heap.size x (j + 1) (.pointer (some ⟨rb, rf, none⟩)) L w) W.heap.size (.slice (some ⟨kk, off, none⟩) k cap0) k Z TA TB (gsOf L x (j + 1)) (.slice A m q) (fun k => wr.heap.size ≤ k ∧ k < V.heap.size) w' ∧ (∀ k, wr.heap.size ≤ k → k < V.heap.size → w'.heap[k]? = V.heap[k]?) ∧ Below W.heap.size V w') := ⟨fun V hV => by rw [hsx]; exact in_take1 hC HZ.out hV (IntWalk.i64_in _ (by have := (HZW.out j hlt).1; omega))⟩
                  rw [← hsx] at HC
                  have HBA := Aside.mk ((Below.refl wc.heap.size wc).alloc (Nat.le_refl _) (.cells #[.int .i64 0, .int .i64 0, .string ⟨#[]⟩] 50))
                  have HB0 := Aside.mk (HC.out.2.drew)
                  have HWW : Aside (W.heap.size ≤ wr.heap.size) := ⟨HBW.out.size⟩
                  have HB1 := Aside.mk (below_then HC.out.2 HC.out.2.size HBA.out).drew
                  have cv0 := conv_sent HC.out.1 (Below.refl wc.heap.size wc).drew
                  have cv1 := conv_sent HC.out.1 HBA.out.drew
                  have b4 := below_cell HBA.out b3
                  clear hsx
                  go_upto_region 28 with (fail)
                  go_cut [21, 22] (fun d v wy => ∃ (bd : Nat), d = .pointer (some ⟨bd, 0, none⟩) ∧ v = .bool false ∧ Aside (TopAt (fun L w => RecvAt W.heap.size x (j + 1) (.pointer (some ⟨rb, rf, none⟩)) L w) W.heap.size (.slice (some ⟨kk, off, none⟩) k cap0) k Z TA TB (gsOf L x (j + 1)) (.slice A m q) wy ∧ Below W.heap.size wr wy))
                  case first =>
                    --L
                    have HKW : Aside (¬ kk = wc.heap.size ∧ ¬ wc.heap.size = kk) := ⟨by have := World.block_lt_of_cell? _ _ b3; simp at this; omega⟩
                    have nk1 := HKW.out.1
                    have nk2 := HKW.out.2
                    have HKG : Aside (¬ gb = wc.heap.size) := ⟨by have := HC.out.1.gbs.2; omega⟩
                    go_region_held3 (fun w' => w'.cell? ⟨kk, off + j * 5 + 2, none⟩ = some (.int .i64 (Z j + (12500 * (j : Int) + 20))) ∧ (convert 45 9 (.slice (some ⟨gb, 0, none⟩) n qb)).run Tryz.prog w' = .ok (.string sx) w')
                      (first
                        | exact ⟨b3, cv0⟩
                        | exact ⟨b4, cv1⟩
                        | exact ⟨hs2, cv2⟩
                        | exact two_keep HF2.out hs2 (Below.heap_alloc w2 _ gb HF2.out.gbs.2) (Below.heap_alloc w2 _ kk (World.block_lt_of_cell? _ _ hs2))
                        | exact two_keep HF2.out hs2 (set3_block w2 HKG.out _ _ _) (set3_block w2 nk1 _ _ _)) (first
                      | (go_at_call 10; (with_reducible refine (H10.out _ HB1.out).mono ?_); rintro e w2 ⟨⟨p', q', er, dv, rfl, hdv⟩, h2, h3, h4⟩; have hs2 : w2.cell? ⟨kk, off + j * 5 + 2, none⟩ = some (.int .i64 (Z j + (12500 * (j : Int) + 20))) := h2.top.end_ hlt; have HF2 := Aside.mk (HC.out.1.move ((h3 gb HC.out.1.gbs.1 (by have := HC.out.1.gbs.2; simp; omega)).trans (Below.heap_alloc wc _ gb HC.out.1.gbs.2))); have cv2 := (two_keep HF2.out hs2 rfl rfl).2; have hbk : Blk w2 wc.heap.size 50 #[.int .i64 0, .int .i64 0, .string ⟨#[]⟩] := (h3 _ HC.out.2.size (by simp)).trans (Blk.new wc 50 #[.int .i64 0, .int .i64 0, .string ⟨#[]⟩]); have q0 := hbk.cell 0; have q1 := hbk.cell 1; have q2 := hbk.cell 2; have qf0 := hbk.frozen 0; have qf1 := hbk.frozen 1; have qf2 := hbk.frozen 2; have H2 := Aside.mk h2; have H4 := Aside.mk h4; have HV := Aside.mk hdv; have HBK := Aside.mk hbk; clear h2 h3 h4 hbk hdv)
                      | (go_at_call 10; (with_reducible refine (H10.out _ HB0.out).mono ?_); rintro e w2 ⟨⟨p', q', er, dv, rfl, hdv⟩, h2, h3, h4⟩; have hs2 : w2.cell? ⟨kk, off + j * 5 + 2, none⟩ = some (.int .i64 (Z j + (12500 * (j : Int) + 20))) := h2.top.end_ hlt; have HF2 := Aside.mk (HC.out.1.move (h3 gb HC.out.1.gbs.1 HC.out.1.gbs.2)); have cv2 := (two_keep HF2.out hs2 rfl rfl).2; have H2 := Aside.mk h2; have H4 := Aside.mk h4; have HV := Aside.mk hdv; clear h2 h3 h4 hdv))
                    all_goals (try go_wp2_with (fail))
                    all_goals go_meet
                    all_goals first
                      | (obtain ⟨t1, t2, t3⟩ := took_old (p := p') (q := q') (d := dv) bears_recv H2.out ((HB1.out.mono HWW.out).trans H4.out) (z := wc.heap.size) ⟨HC.out.2.size, by simp⟩ HBK.out; exact ⟨_, rfl, rfl, ⟨t1, t3⟩⟩)
                      | (obtain ⟨t1, t2, t3⟩ := took_new (p := p') (q := q') (d := dv) bears_recv H2.out ((HB0.out.mono HWW.out).trans H4.out); exact ⟨_, rfl, rfl, ⟨t1, t3⟩⟩)
                    --E
                  case rest =>
                    obtain ⟨bd, rfl, rfl, HJ⟩ := hcut
                    clear cv0 cv1 b3 b4 H10 HB0 HB1 HBA HC hconv e2 e3 e4 e5 p0 p1
                    go_wp2_with (fail)
                    go_roundw
                    case rel => exact ⟨2, by omega, rfl, ⟨_, _, _, rfl⟩, ⟨⟨.inr (.inr ⟨rfl, HJ.out.1⟩)⟩, HBW.out.trans HJ.out.2⟩⟩
                    case measure => simp [intOf]
            · have HZ := Aside.mk HI.out.1.zero
              have HBW := Aside.mk HI.out.2
              obtain ⟨kk, off, rfl, e2, e3, e4⟩ := HI.out.1.zero.cells hlt
              have p0 : wr.cell? ⟨p, 0, none⟩ = some (.int .i64 h0) := (World.cell?_of_block (HI.out.2.block p (by have := HSZ.out; omega))).trans (HBX.out.cell 0)
              have p1 : wr.cell? ⟨p, 1, none⟩ = some (.int .i64 h1) := (World.cell?_of_block (HI.out.2.block p (by have := HSZ.out; omega))).trans (HBX.out.cell 1)
              obtain ⟨n, gb, qb, wb, hne, hconv, hbb, hbf⟩ := conv_text (TA j) wr
              have HBB := Aside.mk hbb
              have HBF := Aside.mk hbf
              have HNE := Aside.mk hne
              have b0 := below_cell hbb p0
              have b1 := below_cell hbb p1
              have b2 := below_cell hbb e2
              have HSE : Aside (64 ≤ n ∧ n ≤ 147) := ⟨by rw [hne]; exact (HZW.out j hlt).2.len.1⟩
              have hn0 : 0 < n := by have := HSE.out; omega
              have hn0i : (0 : Int) < (n : Int) := by omega
              have hnz : ¬ (n : Int) = 0 := by omega
              clear hbb hbf HI hne
              go_upto_region 25 with (fail)
              go_cut [19, 140] (fun t v wx => t = .int .u8 (tb8.toNat : Int) ∧ (∃ bb : Bool, v = .bool bb ∧ Aside (bb = decide (j = x))) ∧ wx = wb)
              case first =>
                --L
                have HT8 : Aside (h1 % 256 = (tb8.toNat : Int)) := ⟨by rw [← HTB.out.1, IntKind.wrap_u8]⟩
                by_cases hjx : j = x
                · obtain ⟨hfr, htn⟩ := (HX.out.2 j hlt).1 hjx
                  have HD : Aside (true = decide (j = x)) := ⟨(decide_eq_true hjx).symm⟩
                  clear hjx
                  subst hfr
                  have htn2 : ¬ h1 % 256 = 0 := by rw [IntKind.wrap_u8] at htn; exact htn
                  have htn3 : ¬ IntKind.u8.wrap h1 = 0 := htn
                  go_wp2_with (fail)
                  go_meet
                  exact ⟨by rw [HT8.out], ⟨true, by try simp [htn2], HD⟩, rfl⟩
                · have hno : ¬ ((j : Int) = fr ∧ IntKind.u8.wrap h1 ≠ 0) := fun h => hjx ((HX.out.2 j hlt).2 h)
                  have HD : Aside (false = decide (j = x)) := ⟨(decide_eq_false hjx).symm⟩
                  clear hjx
                  by_cases hfr : (j : Int) = fr
                  · have htn3 : IntKind.u8.wrap h1 = 0 := Classical.byContradiction fun h => hno ⟨hfr, h⟩
                    have htn2 : h1 % 256 = 0 := by rw [IntKind.wrap_u8] at htn3; exact htn3
                    have HT9 : Aside ((0 : Int) = (tb8.toNat : Int)) := ⟨by rw [← HT8.out, htn2]⟩
                    subst hfr
                    clear hno
                    go_wp2_with (fail)
                    go_meet
                    exact ⟨by first | rw [HT8.out] | rw [HT9.out], ⟨false, by try simp [htn2], HD⟩, rfl⟩
                  · clear hno
                    go_wp2_with (fail)
                    go_meet
                    exact ⟨by rw [HT8.out], ⟨false, by try simp, HD⟩, rfl⟩
                --E
              case rest =>
                obtain ⟨rfl, ⟨bb, rfl, HBD⟩, rfl⟩ := hcut
                go_upto_if 140 with (fail)
                go_cut [18] (fun v wx => v = .slice (some ⟨gb, 0, none⟩) n qb ∧ Aside (Bf wx wr.heap.size (sent j x h0 tb8 (TA j)).data.toList (.slice (some ⟨gb, 0, none⟩) n qb) ∧ Below wr.heap.size wr wx))
                case first =>
                  --L
                  cases bb with
                  | true =>
                    have hjx : j = x := of_decide_eq_true HBD.out.symm
                    have HSN := Aside.mk (sent_bad (h0 := h0) (t := tb8) (a := TA j) hjx)
                    obtain ⟨at_, c, hat, hatl, hcl, hfz, hbf2, hbl2⟩ := chg_at HBF.out HNE.out h0 hn0 tb8 hh0 HSE.out.2
                    have HB2 := Aside.mk hbf2
                    have HB3 := Aside.mk (HBB.out.trans hbl2)
                    clear hjx hbf2 hbl2
                    go_wp2_with (fail)
                    go_meet
                    exact ⟨rfl, by rw [HSN.out]; exact ⟨HB2.out, HB3.out⟩⟩
                  | false =>
                    have HSN := Aside.mk (sent_good (h0 := h0) (t := tb8) (a := TA j) (of_decide_eq_false HBD.out.symm))
                    go_wp2_with (fail)
                    go_meet
                    exact ⟨rfl, by rw [HSN.out]; exact ⟨HBF.out, HBB.out⟩⟩
                  --E
                case rest =>
                  obtain ⟨rfl, HC⟩ := hcut
                  clear b0 b1 HBF HBB
                  have b3 := below_cell HC.out.2 e2
                  clear b2
                  obtain ⟨sx, hsx⟩ : ∃ sx, sx = sent j x h0 tb8 (TA j) := ⟨_, rfl⟩
                  have H10 : Aside (∀ V : World, Below wr.heap.size wr V → Calls Tryz.prog 10 #[.pointer (some ⟨rb, rf, none⟩), .int .i64 (IntKind.i64.wrap (Z j + (12500 * (j : Int) + 20))), .int .i64 0, .string sx] V fun e w' => Answers (!Nat.beq j x) (L j) e ∧ TopK (fun V w => Mid W.heap.size x j (.pointer (some ⟨rb, rf, none⟩)) (Z j) (L j) (sent j x h0 tb8 (TB j)) V w) W.heap.size (.slice (some ⟨kk, off, none⟩) k cap0) k Z TA TB (gsOf L x j) (.slice A m q) (fun k => wr.heap.size ≤ k ∧ k < V.heap.size) w' ∧ (∀ k, wr.heap.size ≤ k → k < V.heap.size → w'.heap[k]? = V.heap[k]?) ∧ Below W.heap.size V w') := ⟨fun V hV => by rw [hsx]; exact in_take0 hC HZ.out HX.out.1 (by omega) (HZW.out j hlt).1 (HZW.out j hlt).2 (fun he h0 => ((HX.out.2 j hlt).1 he).2 (HTB.out.2.1 h0)) hV (IntWalk.i64_in _ (by have := (HZW.out j hlt).1; omega))⟩
                  rw [← hsx] at HC
                  have HBA := Aside.mk ((Below.refl wc.heap.size wc).alloc (Nat.le_refl _) (.cells #[.int .i64 0, .int .i64 0, .string ⟨#[]⟩] 50))
                  have HB0 := Aside.mk (HC.out.2.drew)
                  have HWW : Aside (W.heap.size ≤ wr.heap.size) := ⟨HBW.out.size⟩
                  have HB1 := Aside.mk (below_then HC.out.2 HC.out.2.size HBA.out).drew
                  have cv0 := conv_sent HC.out.1 (Below.refl wc.heap.size wc).drew
                  have cv1 := conv_sent HC.out.1 HBA.out.drew
                  have b4 := below_cell HBA.out b3
                  clear hsx
                  go_upto_region 28 with (fail)
                  go_cut [21, 22] (fun d v wy => ∃ (bd : Nat) (is : Bool), d = .pointer (some ⟨bd, 0, none⟩) ∧ v = .bool is ∧ Aside (is = !Nat.beq j x ∧ TopAt (fun V w => Mid W.heap.size x j (.pointer (some ⟨rb, rf, none⟩)) (Z j) (L j) (sent j x h0 tb8 (TB j)) V w) W.heap.size (.slice (some ⟨kk, off, none⟩) k cap0) k Z TA TB (gsOf L x j) (.slice A m q) wy ∧ (is = true → wy.cell? ⟨bd, 2, none⟩ = some (.string (L j))) ∧ Below W.heap.size wr wy))
                  case first =>
                    --L
                    have HKW : Aside (¬ kk = wc.heap.size ∧ ¬ wc.heap.size = kk) := ⟨by have := World.block_lt_of_cell? _ _ b3; simp at this; omega⟩
                    have nk1 := HKW.out.1
                    have nk2 := HKW.out.2
                    have HKG : Aside (¬ gb = wc.heap.size) := ⟨by have := HC.out.1.gbs.2; omega⟩
                    go_region_held3 (fun w' => w'.cell? ⟨kk, off + j * 5 + 2, none⟩ = some (.int .i64 (Z j + (12500 * (j : Int) + 20))) ∧ (convert 45 9 (.slice (some ⟨gb, 0, none⟩) n qb)).run Tryz.prog w' = .ok (.string sx) w')
                      (first
                        | exact ⟨b3, cv0⟩
                        | exact ⟨b4, cv1⟩
                        | exact ⟨hs2, cv2⟩
                        | exact two_keep HF2.out hs2 (Below.heap_alloc w2 _ gb HF2.out.gbs.2) (Below.heap_alloc w2 _ kk (World.block_lt_of_cell? _ _ hs2))
                        | exact two_keep HF2.out hs2 (set3_block w2 HKG.out _ _ _) (set3_block w2 nk1 _ _ _)) (first
                      | (go_at_call 10; (with_reducible refine (H10.out _ HB1.out).mono ?_); rintro e w2 ⟨⟨p', q', er, dv, rfl, hdv⟩, h2, h3, h4⟩; have hs2 : w2.cell? ⟨kk, off + j * 5 + 2, none⟩ = some (.int .i64 (Z j + (12500 * (j : Int) + 20))) := h2.top.end_ hlt; have HF2 := Aside.mk (HC.out.1.move ((h3 gb HC.out.1.gbs.1 (by have := HC.out.1.gbs.2; simp; omega)).trans (Below.heap_alloc wc _ gb HC.out.1.gbs.2))); have cv2 := (two_keep HF2.out hs2 rfl rfl).2; have hbk : Blk w2 wc.heap.size 50 #[.int .i64 0, .int .i64 0, .string ⟨#[]⟩] := (h3 _ HC.out.2.size (by simp)).trans (Blk.new wc 50 #[.int .i64 0, .int .i64 0, .string ⟨#[]⟩]); have q0 := hbk.cell 0; have q1 := hbk.cell 1; have q2 := hbk.cell 2; have qf0 := hbk.frozen 0; have qf1 := hbk.frozen 1; have qf2 := hbk.frozen 2; have H2 := Aside.mk h2; have H4 := Aside.mk h4; have HV := Aside.mk hdv; have HBK := Aside.mk hbk; clear h2 h3 h4 hbk hdv)
                      | (go_at_call 10; (with_reducible refine (H10.out _ HB0.out).mono ?_); rintro e w2 ⟨⟨p', q', er, dv, rfl, hdv⟩, h2, h3, h4⟩; have hs2 : w2.cell? ⟨kk, off + j * 5 + 2, none⟩ = some (.int .i64 (Z j + (12500 * (j : Int) + 20))) := h2.top.end_ hlt; have HF2 := Aside.mk (HC.out.1.move (h3 gb HC.out.1.gbs.1 HC.out.1.gbs.2)); have cv2 := (two_keep HF2.out hs2 rfl rfl).2; have H2 := Aside.mk h2; have H4 := Aside.mk h4; have HV := Aside.mk hdv; clear h2 h3 h4 hdv))
                    all_goals (try go_wp2_with (fail))
                    all_goals go_meet
                    all_goals first
                      | (obtain ⟨t1, t2, t3⟩ := took_old (p := p') (q := q') (d := dv) bears_mid H2.out ((HB1.out.mono HWW.out).trans H4.out) (z := wc.heap.size) ⟨HC.out.2.size, by simp⟩ HBK.out; exact ⟨_, _, rfl, rfl, ⟨rfl, t1, fun hh => by rw [← HV.out hh]; exact t2, t3⟩⟩)
                      | (obtain ⟨t1, t2, t3⟩ := took_new (p := p') (q := q') (d := dv) bears_mid H2.out ((HB0.out.mono HWW.out).trans H4.out); exact ⟨_, _, rfl, rfl, ⟨rfl, t1, fun hh => by rw [← HV.out hh]; exact t2, t3⟩⟩)
                    --E
                  case rest =>
                    obtain ⟨bd, is, rfl, rfl, HJ⟩ := hcut
                    clear cv0 cv1 b3 b4 H10 HB0 HB1 HBA HC hconv e2 e3 e4 p0 p1
                    cases is with
                    | false =>
                      have HGE : Aside (gsOf L x (j + 1) = gsOf L x j) := ⟨by rw [(not_beq HJ.out.1).2 rfl]; exact gsOf_bad L x⟩
                      go_wp2_with (fail)
                      go_roundw
                      case rel => exact ⟨1, by omega, rfl, ⟨_, _, _, rfl⟩, ⟨⟨.inr (.inl ⟨rfl, by rw [HGE.out]; exact HJ.out.2.1⟩)⟩, HBW.out.trans HJ.out.2.2.2⟩⟩
                      case measure => simp [intOf]
                    | true =>
                      have HGE : Aside (gsOf L x (j + 1) = gsOf L x j ++ [L j]) := ⟨gsOf_good L ((not_beq HJ.out.1).1 rfl)⟩
                      have hcl := HJ.out.2.2.1 rfl
                      have HGT := Aside.mk HJ.out.2.1.got
                      have HGL : Aside ((gsOf L x j).length ≤ 100) := ⟨by have := gsOf_len L x j; omega⟩
                      go_wp2_with (at_builtin; refine wpList_got rfl (.tmp 178) (.tmp 181) rfl rfl HGT.out HGL.out (L j) rfl rfl ?_; intro A' m' q' w3 g3 gr3; have G3 := Aside.mk g3; have GR3 := Aside.mk gr3; clear g3 gr3)
                      go_roundw
                      case rel => exact ⟨1, by omega, rfl, ⟨_, _, _, rfl⟩, ⟨⟨.inr (.inl ⟨rfl, by rw [HGE.out]; exact HJ.out.2.1.put bears_mid G3.out GR3.out⟩)⟩, (HBW.out.trans HJ.out.2.2.2).trans (HJ.out.2.1.grew GR3.out)⟩⟩
                      case measure => simp [intOf]
        · have : j = k := by omega
          subst this
          have hji : ¬ (j : Int) < (j : Int) := by omega
          go_wp2_with (fail)
          obtain ⟨LL, _, _, _, hgot, _, _⟩ := HI.out.1.out
          have HG := Aside.mk hgot
          have HBW := Aside.mk HI.out.2
          obtain ⟨AA, cc, hsl⟩ := hgot.slice
          have hmj : m = (gsOf L x j).length := by injection hsl
          have bx1 : wr.cell? ⟨p, 1, none⟩ = some (.int .i64 h1) := (World.cell?_of_block (HI.out.2.block p (by have := HSZ.out; omega))).trans (HBX.out.cell 1)
          clear hgot hsl HI HT0
          have HBb : Aside (∀ V : World, Below wr.heap.size wr V → Got V (gsOf L x j) (.slice A m q) ∧ V.cell? ⟨p, 1, none⟩ = some (.int .i64 h1) ∧ Below w.heap.size w V ∧ w.heap.size ≤ V.heap.size) := ⟨fun V hV => ⟨HG.out.keep fun g hg => hV.block g (HG.out.lt hg), below_cell hV bx1, below_then (below_then HBE.out HBE.out.size HBW.out) (Nat.le_trans HBE.out.size HBW.out.size) hV, Nat.le_trans (Nat.le_trans HBE.out.size HBW.out.size) hV.size⟩⟩
          have HB0 := Aside.mk (Below.refl wr.heap.size wr)
          obtain ⟨w0, hw0⟩ : ∃ w0, w0 = wr := ⟨_, rfl⟩
          subst hw0
          --L
          go_loopw [24, 25] (fun aa i w2 => ∃ c : Nat, c ≤ j ∧ i = .int .i64 c ∧ aa = .int .i64 ((gsOf L x c).length : Nat) ∧ Aside (Below w0.heap.size w0 w2)) (fun _ i _ => j - (intOf i).toNat)
          case atStart => exact ⟨0, by omega, rfl, rfl, HB0⟩
          case round =>
            obtain ⟨c, hc, rfl, rfl, HN⟩ := hrel
            obtain ⟨hgk, bx2, hwk, hszk⟩ := HBb.out _ HN.out
            have HGK := Aside.mk hgk
            have HWK := Aside.mk hwk
            have HSK := Aside.mk hszk
            clear hgk hwk hszk
            have hc0 : (0 : Int) ≤ (c : Int) := by omega
            by_cases hlc : c < j
            · have hci : (c : Int) < (j : Int) := by omega
              by_cases hcx : c = x
              · obtain ⟨hfr, htn⟩ := (HX.out.2 c hlc).1 hcx
                have HCX : Aside (gsOf L x (c + 1) = gsOf L x c) := ⟨by rw [hcx]; exact gsOf_bad L x⟩
                clear hcx
                subst hfr
                have htn2 : ¬ h1 % 256 = 0 := by rw [IntKind.wrap_u8] at htn; exact htn
                have htn3 : ¬ IntKind.u8.wrap h1 = 0 := htn
                go_wp2_with (fail)
                go_round
                case rel => exact ⟨c + 1, by omega, by go_num, by rw [HCX.out], HN⟩
                case measure => simp [intOf]; omega
              · have hno : ¬ ((c : Int) = fr ∧ IntKind.u8.wrap h1 ≠ 0) := fun h => hcx ((HX.out.2 c hlc).2 h)
                have hat := gsOf_at L hlc hcx
                have HNX : Aside ((gsOf L x (c + 1)).length = (gsOf L x c).length + 1) := ⟨by rw [gsOf_good L hcx]; simp⟩
                obtain ⟨gg, c2, hgv, hgc⟩ := HGK.out.cell hat
                have hA : A = some ⟨gg, 0, none⟩ := by injection hgv
                subst hA
                have hlt2 : (gsOf L x c).length < (gsOf L x j).length := (List.getElem?_eq_some_iff.1 hat).1
                obtain ⟨ab, ao, rfl, hcell⟩ := HS.out.strs c hlc
                have hl2 := below_cell HWK.out hcell
                have hg2 := hgc
                clear hgv hcell hat
                have hl10 : (gsOf L x j).length ≤ 10 := Nat.le_trans (gsOf_len L x j) hlen10
                generalize (gsOf L x c).length = ln at *
                generalize (gsOf L x j).length = lj at *
                have hlni : (ln : Int) < (lj : Int) := by omega
                have hln0 : (0 : Int) ≤ (ln : Int) := by omega
                clear hcx
                by_cases hfr : (c : Int) = fr
                · have htn3 : IntKind.u8.wrap h1 = 0 := Classical.byContradiction fun h => hno ⟨hfr, h⟩
                  subst hfr
                  clear hno
                  go_wp2_with (fail)
                  have hdec : decide ((lj : Int) ≤ (ln : Int)) = false := decide_eq_false (by omega)
                  have hdec2 : ¬ (lj : Int) ≤ (ln : Int) := by omega
                  have hdec3 : ¬ lj ≤ ln := by omega
                  have k1 := fun y : Cls wr => y.cell hg2
                  have k2 := fun y : Cls wr => y.cell hl2
                  refine region_cls (by kernel_rfl) (by kernel_rfl) ?_
                  repeat (go_big_quiet_step (fail))
                  refine wpQuiet_nil ?_
                  rintro _ ⟨y, rfl⟩
                  go_wp2_with (fail)
                  go_round
                  case rel => exact ⟨c + 1, by omega, by go_num, by rw [HNX.out]; go_num, ⟨below_then HN.out HN.out.size y.below⟩⟩
                  case measure => simp [intOf]; omega
                · clear hno
                  go_wp2_with (fail)
                  have hdec : decide ((lj : Int) ≤ (ln : Int)) = false := decide_eq_false (by omega)
                  have hdec2 : ¬ (lj : Int) ≤ (ln : Int) := by omega
                  have hdec3 : ¬ lj ≤ ln := by omega
                  have k1 := fun y : Cls wr => y.cell hg2
                  have k2 := fun y : Cls wr => y.cell hl2
                  refine region_cls (by kernel_rfl) (by kernel_rfl) ?_
                  repeat (go_big_quiet_step (fail))
                  refine wpQuiet_nil ?_
                  rintro _ ⟨y, rfl⟩
                  go_wp2_with (fail)
                  refine ⟨⟨_, _, _, ⟨c + 1, by omega, rfl, rfl, ⟨below_then HN.out HN.out.size y.below⟩⟩, rfl, by rw [HNX.out]; simp, by simp⟩, ?_⟩
                  simp [intOf]; omega
            · have : c = j := by omega
              subst this
              have hci : ¬ (c : Int) < (c : Int) := by omega
              go_wp2_with (go_at_call 7; refine (HAW.out _).mono ?_; rintro e w8 ⟨rfl, h8⟩; have H8 := Aside.mk h8; clear h8)
              go_ret
              exact ⟨rfl, below_then HWK.out HSK.out H8.out⟩
          --E
end Go.Proofs.YtdgjcjhicbgfaaaGreat
