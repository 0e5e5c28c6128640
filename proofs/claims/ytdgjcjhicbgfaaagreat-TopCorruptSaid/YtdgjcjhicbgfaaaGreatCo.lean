/- A packet read, all of it. Conditions: it is one that was made here, some noughts behind it. -/
import Derived.Test.YtdgjcjhicbgfaaaGreatCv
set_option linter.unusedVariables false
set_option linter.unusedSimpArgs false
namespace Go.Proofs.YtdgjcjhicbgfaaaGreat
open Go.RowKit Go.Lib
set_option linter.unusedVariables false
set_option linter.unusedSimpArgs false
set_option maxRecDepth 20000

set_option maxHeartbeats 4000000 in
theorem idec_calls (id k : Nat) (d s : ByteArray) (w : World) (hs : s.data.toList = ipB id d.data.toList ++ List.replicate k 0) (hd : d.size ≤ 108) (hid : id ≤ 65535) (hk : k ≤ 45) :
    Calls Tryz.prog 113 #[.string s] w fun e w' => e = .returned (.tuple #[.agg (ipC id d), .int .i64 0]) ∧ Below w.heap.size w w' := by
  have HI := Aside.mk (Ip.of hs hd hid hk)
  obtain ⟨n, hn⟩ : ∃ n, n = d.size := ⟨_, rfl⟩
  rw [← hn] at HI
  obtain ⟨x, hx⟩ : ∃ x, x = onesB ((ipHead id n).1 ++ [0, 0] ++ (srcB ++ dstB)) := ⟨_, rfl⟩
  have hx6 : x < 65536 := by rw [hx]; unfold onesB; omega
  obtain ⟨r, hr⟩ : ∃ r, r = d.data.toList ++ List.replicate k 0 := ⟨_, rfl⟩
  have hlist : s.data.toList = 0x45 :: 0 :: (be16 (20 + n) ++ (be16 id ++ (0 :: 0 :: 1 :: 17 :: (be16 x ++ (srcB ++ (dstB ++ r)))))) := by
    rw [HI.out.all, hx, hr]; simp [ipHead, be16]
  have hrl : r.length ≤ 300 := by
    rw [hr]; simp only [List.length_append, str_len, List.length_replicate, HI.out.dz]; have := HI.out.dn; have := HI.out.hk; omega
  obtain ⟨m, hm⟩ : ∃ m, m = s.size := ⟨_, rfl⟩
  have hm2 : m = 20 + n + k := by rw [hm]; exact HI.out.size
  have hz : s.size = m := hm.symm
  have m20 : 20 ≤ m := by omega
  have m300 : m ≤ 300 := by omega
  have hnm : 20 + n ≤ m := by omega
  have hn108 : n ≤ 108 := by omega
  have HL := Aside.mk hlist
  have HR := Aside.mk hrl
  have HX := Aside.mk hx
  have HZ := Aside.mk hm
  have HM2 := Aside.mk hm2
  clear hs hd hn hr hlist hm hx hrl hm2 hk
  go_enter Tryz.func113, Tryz.ntmps113
  obtain ⟨o, ho⟩ : ∃ o, o = w.heap.size := ⟨_, rfl⟩
  go_wp2_with (fail)
  refine (read_calls s _).mono ?_
  rintro e w1 ⟨rfl, h1, h2⟩
  have HP := Aside.mk (PD.first ho (by rw [str_len, hz]; omega) h1 h2)
  rw [HL.out] at HP
  simp only [World.size_alloc]
  rw [← ho]
  have HO := Aside.mk ho
  clear h1 h2 ho
  have hall : 20 + n < 65536 := by omega
  have hid6 : id < 65536 := by omega
  go_wp2_with (first | (go_at_call 152; refine (r8L HP.out.rd rfl).mono ?_; rintro e w2 ⟨rfl, h1, h2⟩; replace HP := Aside.mk (HP.out.move h1 h2); clear h1 h2) | (go_at_call 149; first | (refine (r16L (n := 20 + n) HP.out.rd hall).mono ?_; rintro e w2 ⟨rfl, h1, h2⟩; replace HP := Aside.mk (HP.out.move h1 h2); clear h1 h2) | (refine (r16L (n := id) HP.out.rd hid6).mono ?_; rintro e w2 ⟨rfl, h1, h2⟩; replace HP := Aside.mk (HP.out.move h1 h2); clear h1 h2)))
  have HQ : Aside (PQ w (w2.alloc (.cells (ipZero.setIfInBounds 0 (.int .i64 id)) 121)) o (o + 1) w2.heap.size (0 :: 0 :: 1 :: 17 :: (be16 x ++ (srcB ++ (dstB ++ r)))) (ipZero.setIfInBounds 0 (.int .i64 id))) := ⟨⟨HP.out.alloc _, Blk.new _ _ _, HP.out.rd.lt⟩⟩
  change Calls _ _ _ (w2.alloc (.cells (ipZero.setIfInBounds 0 (.int .i64 id)) 121)) _
  clear HP
  generalize hW : w2.alloc (.cells (ipZero.setIfInBounds 0 (.int .i64 id)) 121) = W2 at *
  generalize w2.heap.size = q at *
  clear hW
  refine (parts_calls _).mono ?_
  rintro e w3 ⟨rfl, hi, hb⟩
  have HI4 := Aside.mk hi
  have HNE : Aside (W2.heap.size ≠ o + 1) := ⟨by have := HQ.out.pd.rd.lt; omega⟩
  replace HQ := Aside.mk (HQ.out.grow hb)
  clear hi hb
  go_wp2_with (fail)
  refine (bitsL HQ.out.pd.rd HI4.out HNE.out).mono ?_
  rintro e w4 ⟨g, c, rfl, hg, hge, h1, h2⟩
  have HG := Aside.mk hg
  have hgq : q < g := by have := HQ.out.blk.lt; omega
  replace HQ := Aside.mk (HQ.out.move h1 h2)
  clear hg h1 h2 hge HI4 HNE
  go_wp2_with (go_at_call 107; refine (parts_calls _).mono ?_; rintro e w5 ⟨rfl, hi, hb⟩; obtain ⟨g0, g1, g2⟩ := HG.out; replace g0 := below_cell hb g0; replace g1 := below_cell hb g1; replace g2 := below_cell hb g2; replace HQ := Aside.mk (HQ.out.grow hb); clear hi hb)
  have k1 : w5.cell? ⟨q, 1, none⟩ = some (.bool false) := HQ.out.blk.cell 1
  have k2 : w5.cell? ⟨q, 2, none⟩ = some (.int .i64 0) := HQ.out.blk.cell 2
  have m1 := HQ.out.blk.frozen 1
  have m2 := HQ.out.blk.frozen 2
  have g1' := g1
  have g2' := g2
  replace g1 : w5.drew.cell? ⟨g, 1, none⟩ = some (.int .i64 0) := g1
  replace g2 : w5.drew.cell? ⟨g, 2, none⟩ = some (.int .i64 0) := g2
  replace HQ := Aside.mk HQ.out.drew
  have c1 : w5.drew.cell? ⟨q, 1, none⟩ = some (.bool false) := HQ.out.blk.cell 1
  have c2 : w5.drew.cell? ⟨q, 2, none⟩ = some (.int .i64 0) := HQ.out.blk.cell 2
  have f1 := HQ.out.blk.frozen 1
  have f2 := HQ.out.blk.frozen 2
  have hne : q ≠ g := by omega
  have hne' : g ≠ q := by omega
  have HQ2 := Aside.mk ((HQ.out.set 1 (.bool false)).set 2 (.int .i64 0))
  obtain ⟨J, hJ⟩ : ∃ J : World → Prop, J = fun w' => PQ w w' o (o + 1) q (1 :: 17 :: (be16 x ++ (srcB ++ (dstB ++ r)))) (((ipZero.setIfInBounds 0 (.int .i64 id)).setIfInBounds 1 (.bool false)).setIfInBounds 2 (.int .i64 0)) := ⟨_, rfl⟩
  have HJ := Aside.mk hJ
  clear hJ g0
  refine region_post 51 9 J (by simp) ?_ ?_
  · go_region
    all_goals exact ⟨by rw [HJ.out]; exact HQ2.out, rfl, rfl, rfl, rfl⟩
  intro xs w6 hx h6
  rw [HJ.out] at h6
  obtain ⟨x0, x1, x2, x3, x4, x5, x6, x7, x8, rfl⟩ := list9_of hx
  simp only [List.take_succ_cons, List.take_zero, List.drop_succ_cons, List.drop_zero, List.cons_append, List.nil_append]
  replace HQ := Aside.mk h6
  clear h6 hx HQ2 HJ c1 c2 f1 f2 g1 g2 HG k1 k2 m1 m2 g1' g2'
  go_wp2_with (fail)
  refine (r8L HQ.out.pd.rd rfl).mono ?_
  rintro e w7 ⟨rfl, h1, h2⟩
  replace HQ := Aside.mk (HQ.out.move h1 h2)
  clear h1 h2
  go_wp2_with (fail)
  refine (r8L HQ.out.pd.rd rfl).mono ?_
  rintro e w8 ⟨rfl, h1, h2⟩
  replace HQ := Aside.mk (HQ.out.move h1 h2)
  clear h1 h2
  have c3 : w8.cell? ⟨q, 3, none⟩ = some (.int .i64 0) := HQ.out.blk.cell 3
  have c4 : w8.cell? ⟨q, 4, none⟩ = some (.int .i64 0) := HQ.out.blk.cell 4
  have f3 := HQ.out.blk.frozen 3
  have f4 := HQ.out.blk.frozen 4
  replace HQ := Aside.mk ((HQ.out.set 3 (.int .i64 1)).set 4 (.int .i64 17))
  obtain ⟨v20, h20⟩ : ∃ v20, s.extract 0 20 = v20 := ⟨_, rfl⟩
  have HONE : Aside (onesB v20.data.toList = 0) := ⟨by
    rw [← h20, HI.out.x20]
    exact ones_sealed _ _ (by rw [head_len]) (head_pos _ _)⟩
  have H20S : Aside (v20.size ≤ 5000) := ⟨by
    rw [← h20, HI.out.x20, mk_size]; simp only [List.length_append, head_len, be16_len, srcB_len, dstB_len]; omega⟩
  go_wp2_with (first | (go_at_call 109; refine (ones_calls _ _ H20S.out).mono ?_; rintro e w' ⟨rfl, rfl⟩; rw [HONE.out]) | (go_at_call 164; refine (twice_calls id k n d s _ HI.out).mono ?_; rintro e w9 ⟨rfl, hb⟩; replace HQ := Aside.mk (HQ.out.grow hb); clear hb) | (go_at_call 149; refine (r16L (n := x) HQ.out.pd.rd hx6).mono ?_; rintro e w10 ⟨rfl, h1, h2⟩; replace HQ := Aside.mk (HQ.out.move h1 h2); clear h1 h2))
  have HQ1 := Aside.mk (HQ.out.drew)
  have HQ2 : Aside (PQ w (w10.setCell ⟨o + 1, 0, none⟩ (strOf (dstB ++ r))).drew o (o + 1) q (dstB ++ r) _) := ⟨(HQ.out.text (b := dstB ++ r)).drew⟩
  have HQ2b : Aside (PQ w (w10.setCell ⟨o + 1, 0, none⟩ (strOf (dstB ++ r))) o (o + 1) q (dstB ++ r) _) := ⟨HQ.out.text (b := dstB ++ r)⟩
  have HQ3 := Aside.mk (HQ2.out.cv (x := srcB))
  have HT1 : Aside (∀ W : World, RdL W (o + 1) (srcB ++ (dstB ++ r)) → Calls Tryz.prog 150 #[.pointer (some ⟨o + 1, 0, none⟩), .int .i64 4] W fun e w' => e = .returned (strOf srcB) ∧ W.setCell ⟨o + 1, 0, none⟩ (strOf (dstB ++ r)) = w') := ⟨fun W h => textW (a := srcB) (b := dstB ++ r) h rfl⟩
  have HT2 : Aside (∀ W : World, RdL W (o + 1) (dstB ++ r) → Calls Tryz.prog 150 #[.pointer (some ⟨o + 1, 0, none⟩), .int .i64 4] W fun e w' => e = .returned (strOf dstB) ∧ W.setCell ⟨o + 1, 0, none⟩ (strOf r) = w') := ⟨fun W h => textW (a := dstB) (b := r) h rfl⟩
  have hsz : (w10.drew.setCell ⟨o + 1, 0, none⟩ (strOf (dstB ++ r))).heap.size = w10.heap.size := by simp [World.setCell]
  have r1 : ∀ W : World, (convert 9 45 (strOf srcB)).run Tryz.prog W = .ok (.slice (some ⟨W.heap.size, 0, none⟩) 4 (grownCap W 4 0 5)) (cvW srcB W) := fun W => cvW_run srcB W
  have r2 : ∀ W : World, (convert 9 45 (strOf dstB)).run Tryz.prog W = .ok (.slice (some ⟨W.heap.size, 0, none⟩) 4 (grownCap W 4 0 5)) (cvW dstB W) := fun W => cvW_run dstB W
  have r3 : ∀ (A : Addr) (c : Nat) (W : World), (Instr.arrayAt 119 (.slice (some A) 4 c)).run Tryz.prog W = .ok (.pointer (some A)) W := array_at under119
  have n1 : ∀ (l : List UInt8) (W : World), (cvW l W).heap.size = W.heap.size + 1 := cvW_size
  have s0 : ∀ (W : World) (g : Nat), g = W.heap.size → (cvW srcB W).cell? ⟨g, 0, none⟩ = some (.int .u8 10) := fun W g h => by rw [h]; exact cvW_new srcB W 0 10 rfl
  have s1 : ∀ (W : World) (g : Nat), g = W.heap.size → (cvW srcB W).cell? ⟨g, 1, none⟩ = some (.int .u8 0) := fun W g h => by rw [h]; exact cvW_new srcB W 1 0 rfl
  have s2 : ∀ (W : World) (g : Nat), g = W.heap.size → (cvW srcB W).cell? ⟨g, 2, none⟩ = some (.int .u8 0) := fun W g h => by rw [h]; exact cvW_new srcB W 2 0 rfl
  have s3 : ∀ (W : World) (g : Nat), g = W.heap.size → (cvW srcB W).cell? ⟨g, 3, none⟩ = some (.int .u8 0) := fun W g h => by rw [h]; exact cvW_new srcB W 3 0 rfl
  have t0 : ∀ (W : World) (g : Nat), g = W.heap.size → (cvW dstB W).cell? ⟨g, 0, none⟩ = some (.int .u8 224) := fun W g h => by rw [h]; exact cvW_new dstB W 0 224 rfl
  have t1 : ∀ (W : World) (g : Nat), g = W.heap.size → (cvW dstB W).cell? ⟨g, 1, none⟩ = some (.int .u8 224) := fun W g h => by rw [h]; exact cvW_new dstB W 1 224 rfl
  have t2 : ∀ (W : World) (g : Nat), g = W.heap.size → (cvW dstB W).cell? ⟨g, 2, none⟩ = some (.int .u8 0) := fun W g h => by rw [h]; exact cvW_new dstB W 2 0 rfl
  have t3 : ∀ (W : World) (g : Nat), g = W.heap.size → (cvW dstB W).cell? ⟨g, 3, none⟩ = some (.int .u8 10) := fun W g h => by rw [h]; exact cvW_new dstB W 3 10 rfl
  have u1 : ∀ (l : List UInt8) (W : World) (g j : Nat), g < W.heap.size → (cvW l W).cell? ⟨g, j, none⟩ = W.cell? ⟨g, j, none⟩ := fun l W g j h => cvW_old h
  have u2 : ∀ (l : List UInt8) (W : World) (g j : Nat), g < W.heap.size → (cvW l W).frozen? ⟨g, j, none⟩ = W.frozen? ⟨g, j, none⟩ := fun l W g j h => cvW_melt h
  have hq0 : q < w10.heap.size := HQ.out.blk.lt
  have hq1 : q < w10.heap.size + 1 := by omega
  have hq2 : q < w10.heap.size + 1 + 1 := by omega
  have hpq : o + 1 < q := HQ.out.lt
  have e1 : q ≠ o + 1 := by omega
  have e2 : w10.heap.size ≠ o + 1 := by omega
  have e3 : w10.heap.size + 1 ≠ o + 1 := by omega
  have e4 : w10.heap.size ≠ q := by omega
  have e5 : w10.heap.size + 1 ≠ q := by omega
  have e6 : q ≠ w10.heap.size := by omega
  have e7 : q ≠ w10.heap.size + 1 := by omega
  have c00 : w10.cell? ⟨q, 0, none⟩ = some (.int .i64 id) := HQ.out.blk.cell 0
  have c5 : w10.cell? ⟨q, 5, none⟩ = some (.int .u8 0) := HQ.out.blk.cell 5
  have c6 : w10.cell? ⟨q, 6, none⟩ = some (.int .u8 0) := HQ.out.blk.cell 6
  have c7 : w10.cell? ⟨q, 7, none⟩ = some (.int .u8 0) := HQ.out.blk.cell 7
  have c8 : w10.cell? ⟨q, 8, none⟩ = some (.int .u8 0) := HQ.out.blk.cell 8
  have c9 : w10.cell? ⟨q, 9, none⟩ = some (.int .u8 0) := HQ.out.blk.cell 9
  have c10 : w10.cell? ⟨q, 10, none⟩ = some (.int .u8 0) := HQ.out.blk.cell 10
  have c11 : w10.cell? ⟨q, 11, none⟩ = some (.int .u8 0) := HQ.out.blk.cell 11
  have c12 : w10.cell? ⟨q, 12, none⟩ = some (.int .u8 0) := HQ.out.blk.cell 12
  have hfz : ∀ i, w10.frozen? ⟨q, i, none⟩ = false := fun i => HQ.out.blk.frozen i
  obtain ⟨J2, hJ⟩ : ∃ J : World → Prop, J = fun w' => PQ w w' o (o + 1) q r (((((((((((((ipZero.setIfInBounds 0 (.int .i64 id)).setIfInBounds 1 (.bool false)).setIfInBounds 2 (.int .i64 0)).setIfInBounds 3 (.int .i64 1)).setIfInBounds 4 (.int .i64 17)).setIfInBounds 5 (.int .u8 10)).setIfInBounds 6 (.int .u8 0)).setIfInBounds 7 (.int .u8 0)).setIfInBounds 8 (.int .u8 0)).setIfInBounds 9 (.int .u8 224)).setIfInBounds 10 (.int .u8 224)).setIfInBounds 11 (.int .u8 0)).setIfInBounds 12 (.int .u8 10)) := ⟨_, rfl⟩
  have HJ2 := Aside.mk hJ
  clear hJ
  refine region_post 77 12 J2 (by simp) ?_ ?_
  · go_region_with (first | (go_at_call 150; with_reducible refine (HT1.out _ HQ1.out.pd.rd).mono ?_; rintro e w' ⟨rfl, rfl⟩) | (go_at_call 150; with_reducible refine (HT2.out _ HQ2.out.pd.rd).mono ?_; rintro e w' ⟨rfl, rfl⟩) | (go_at_call 150; with_reducible refine (HT2.out _ HQ3.out.pd.rd).mono ?_; rintro e w' ⟨rfl, rfl⟩)) --LONG
    all_goals
      refine ⟨?_, rfl, rfl, rfl, rfl⟩
      rw [HJ2.out]
      repeat (first | with_reducible exact HQ2.out | with_reducible exact HQ2b.out | with_reducible apply PQ.set | with_reducible refine PQ.text (a := dstB) ?_ | with_reducible apply PQ.cv | with_reducible apply PQ.drew) --END
  intro xs w11 hx h11
  rw [HJ2.out] at h11
  simp only [ipZero, List.setIfInBounds_toArray, List.set_cons_zero, List.set_cons_succ] at h11
  have h12 := h11
  clear h11
  obtain ⟨x0, x1, x2, x3, x4, x5, x6, x7, x8, x9, x10, x11, rfl⟩ : ∃ x0 x1 x2 x3 x4 x5 x6 x7 x8 x9 x10 x11, xs = [x0, x1, x2, x3, x4, x5, x6, x7, x8, x9, x10, x11] := by
    match xs, hx with
    | [x0, x1, x2, x3, x4, x5, x6, x7, x8, x9, x10, x11], _ => exact ⟨x0, x1, x2, x3, x4, x5, x6, x7, x8, x9, x10, x11, rfl⟩
  simp only [List.take_succ_cons, List.take_zero, List.drop_succ_cons, List.drop_zero, List.cons_append, List.nil_append]
  have H12 := Aside.mk h12
  clear h12 hx HJ2 HT1 HT2 HQ1 HQ2 HQ2b HQ3 HQ r1 r2 r3 n1 s0 s1 s2 s3 t0 t1 t2 t3 u1 u2 c5 c6 c7 c8 c9 c10 c11 c12 hfz c00 e1 e2 e3 e4 e5 e6 e7 hq0 hq1 hq2 hsz
  have hxd : s.extract 20 (20 + n) = d := HI.out.xd
  have hoq : o ≠ q := by omega
  have hqo : q ≠ o := by omega
  have d0 : w11.cell? ⟨q, 0, none⟩ = some (.int .i64 id) := H12.out.blk.cell 0
  have d1 : w11.cell? ⟨q, 1, none⟩ = some (.bool false) := H12.out.blk.cell 1
  have d2 : w11.cell? ⟨q, 2, none⟩ = some (.int .i64 0) := H12.out.blk.cell 2
  have d3 : w11.cell? ⟨q, 3, none⟩ = some (.int .i64 1) := H12.out.blk.cell 3
  have d4 : w11.cell? ⟨q, 4, none⟩ = some (.int .i64 17) := H12.out.blk.cell 4
  have d5 : w11.cell? ⟨q, 5, none⟩ = some (.int .u8 10) := H12.out.blk.cell 5
  have d6 : w11.cell? ⟨q, 6, none⟩ = some (.int .u8 0) := H12.out.blk.cell 6
  have d7 : w11.cell? ⟨q, 7, none⟩ = some (.int .u8 0) := H12.out.blk.cell 7
  have d8 : w11.cell? ⟨q, 8, none⟩ = some (.int .u8 0) := H12.out.blk.cell 8
  have d9 : w11.cell? ⟨q, 9, none⟩ = some (.int .u8 224) := H12.out.blk.cell 9
  have d10 : w11.cell? ⟨q, 10, none⟩ = some (.int .u8 224) := H12.out.blk.cell 10
  have d11 : w11.cell? ⟨q, 11, none⟩ = some (.int .u8 0) := H12.out.blk.cell 11
  have d12 : w11.cell? ⟨q, 12, none⟩ = some (.int .u8 10) := H12.out.blk.cell 12
  have d13 : w11.cell? ⟨q, 13, none⟩ = some (.string ⟨#[]⟩) := H12.out.blk.cell 13
  have g0 : w11.cell? ⟨o, 0, none⟩ = some (.int .i64 0) := H12.out.pd.out.cell 0
  have g1 : w11.cell? ⟨o, 1, none⟩ = some (.bool false) := H12.out.pd.out.cell 1
  have g2 : w11.cell? ⟨o, 2, none⟩ = some (.int .i64 0) := H12.out.pd.out.cell 2
  have g3 : w11.cell? ⟨o, 3, none⟩ = some (.int .i64 0) := H12.out.pd.out.cell 3
  have g4 : w11.cell? ⟨o, 4, none⟩ = some (.int .i64 0) := H12.out.pd.out.cell 4
  have g5 : w11.cell? ⟨o, 5, none⟩ = some (.int .u8 0) := H12.out.pd.out.cell 5
  have g6 : w11.cell? ⟨o, 6, none⟩ = some (.int .u8 0) := H12.out.pd.out.cell 6
  have g7 : w11.cell? ⟨o, 7, none⟩ = some (.int .u8 0) := H12.out.pd.out.cell 7
  have g8 : w11.cell? ⟨o, 8, none⟩ = some (.int .u8 0) := H12.out.pd.out.cell 8
  have g9 : w11.cell? ⟨o, 9, none⟩ = some (.int .u8 0) := H12.out.pd.out.cell 9
  have g10 : w11.cell? ⟨o, 10, none⟩ = some (.int .u8 0) := H12.out.pd.out.cell 10
  have g11 : w11.cell? ⟨o, 11, none⟩ = some (.int .u8 0) := H12.out.pd.out.cell 11
  have g12 : w11.cell? ⟨o, 12, none⟩ = some (.int .u8 0) := H12.out.pd.out.cell 12
  have g13 : w11.cell? ⟨o, 13, none⟩ = some (.string ⟨#[]⟩) := H12.out.pd.out.cell 13
  have hf1 : ∀ i, w11.frozen? ⟨q, i, none⟩ = false := fun i => H12.out.blk.frozen i
  have hf2 : ∀ i, w11.frozen? ⟨o, i, none⟩ = false := fun i => H12.out.pd.out.frozen i
  have hnm' : (20 : Int) + (n : Int) ≤ (m : Int) := by omega
  go_wp2
  have hout := ((((((((((((((((H12.out.pd.out.far (p := ⟨q, 13, none⟩) hoq (.string d))).set 0 (.int .i64 id)).set 1 (.bool false)).set 2 (.int .i64 0)).set 3 (.int .i64 1)).set 4 (.int .i64 17)).set 5 (.int .u8 10)).set 6 (.int .u8 0)).set 7 (.int .u8 0)).set 8 (.int .u8 0)).set 9 (.int .u8 224)).set 10 (.int .u8 224)).set 11 (.int .u8 0)).set 12 (.int .u8 10)).set 13 (.string d))
  have hbel := (((((((((((((((Upon.of_below (S := (· = w.heap.size)) ((H12.out.pd.set (i := 13) H12.out.lt (.string d)).below)).set ⟨o, 0, none⟩ (.int .i64 id) (.inl HO.out)).set ⟨o, 1, none⟩ (.bool false) (.inl HO.out)).set ⟨o, 2, none⟩ (.int .i64 0) (.inl HO.out)).set ⟨o, 3, none⟩ (.int .i64 1) (.inl HO.out)).set ⟨o, 4, none⟩ (.int .i64 17) (.inl HO.out)).set ⟨o, 5, none⟩ (.int .u8 10) (.inl HO.out)).set ⟨o, 6, none⟩ (.int .u8 0) (.inl HO.out)).set ⟨o, 7, none⟩ (.int .u8 0) (.inl HO.out)).set ⟨o, 8, none⟩ (.int .u8 0) (.inl HO.out)).set ⟨o, 9, none⟩ (.int .u8 224) (.inl HO.out)).set ⟨o, 10, none⟩ (.int .u8 224) (.inl HO.out)).set ⟨o, 11, none⟩ (.int .u8 0) (.inl HO.out)).set ⟨o, 12, none⟩ (.int .u8 10) (.inl HO.out)).set ⟨o, 13, none⟩ (.string d) (.inl HO.out)) |>.below (Nat.le_refl _) (fun i hi => by omega)
  simp only [ipZero, List.setIfInBounds_toArray, List.set_cons_zero, List.set_cons_succ] at hout
  have HOU := Aside.mk hout
  clear hout
  refine bodyPost_ret (v := .tuple #[.agg (ipC id d), .int .i64 0]) ?_ rfl ⟨rfl, hbel⟩
  rw [results_cell1 rfl _ _ o 121 (ipC id d) (0, 0) rfl HOU.out (by kernel_rfl) (by kernel_rfl)]
  rfl
end Go.Proofs.YtdgjcjhicbgfaaaGreat
