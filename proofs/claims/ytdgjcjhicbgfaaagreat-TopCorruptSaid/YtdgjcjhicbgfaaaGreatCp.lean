/- A frame made. Conditions: the text is short, the link and the sender those of this program. -/
import Derived.Test.YtdgjcjhicbgfaaaGreatCv
import Derived.Test.YtdgjcjhicbgfaaaGreatMc
import Derived.Test.YtdgjcjhicbgfaaaGreatRep
set_option linter.unusedVariables false
set_option linter.unusedSimpArgs false
namespace Go.Proofs.YtdgjcjhicbgfaaaGreat
open Go.RowKit Go.Lib
set_option linter.unusedVariables false
set_option linter.unusedSimpArgs false
set_option maxRecDepth 20000

def macLB : List UInt8 := [3, 0, 0, 0, 0, 10]
def macSB (net : Nat) : List UInt8 := [2, 0, 0, 0, 0, (if net = 0 then 0x20 else 0x40)]
theorem rep_calls (c : Nat) (hc : c ≤ 45) (w : World) : Calls Tryz.prog 141 #[.string ⟨#[0]⟩, .int .i64 c] w fun e w' => e = .returned (strOf (List.replicate c 0)) ∧ Below w.heap.size w w' := by
  refine (Tryz.strings_Repeat ⟨#[0]⟩ c w (by omega) (by
    have : (⟨#[0]⟩ : ByteArray).size = 1 := rfl
    rw [this]; omega)).mono ?_
  rintro e w' ⟨rfl, h⟩
  refine ⟨?_, h⟩
  have e1 : (⟨#[0]⟩ : ByteArray).data.toList = List.replicate 1 (0 : UInt8) := rfl
  rw [e1, Lib.repeatL_replicate, Nat.mul_one]
  rfl
/-- The cells of a frame. -/
structure F5 (w : World) (b : Nat) (net seq : Nat) (d : ByteArray) : Prop where
  c0 : w.cell? ⟨b, 0, none⟩ = some (.int .i64 10)
  c1 : w.cell? ⟨b, 1, none⟩ = some (.int .i64 0)
  c2 : w.cell? ⟨b, 2, none⟩ = some (.int .i64 net)
  c3 : w.cell? ⟨b, 3, none⟩ = some (.int .i64 seq)
  c4 : w.cell? ⟨b, 4, none⟩ = some (.string d)
def frC (net seq : Nat) (d : ByteArray) : Array Value := #[.int .i64 10, .int .i64 0, .int .i64 net, .int .i64 seq, .string d]
theorem F5.of {w : World} {b t : Nat} {net seq : Nat} {d : ByteArray} (h : Blk w b t (frC net seq d)) : F5 w b net seq d := ⟨h.cell 0, h.cell 1, h.cell 2, h.cell 3, h.cell 4⟩
theorem mac_str {w : World} {b t : Nat} (l : List UInt8) (hl : l.length = 6) (h : Blk w b t (byteCells l).toArray) : (convert 45 9 (.slice (some ⟨b, 0, none⟩) 6 6)).run Tryz.prog w = .ok (strOf l) w := by
  have := cells_str (w := w) (b := b) (l := l) 6 ?_
  · rw [hl] at this; exact this
  · intro j x hj
    rw [h.cell]
    unfold byteCells
    simp [hj]
set_option maxHeartbeats 4000000 in
theorem eenc_calls (net seq : Nat) (d : ByteArray) (w : World) (hl : d.size ≤ 128) (hn : net = 0 ∨ net = 1) (hs : seq ≤ 255) : Calls Tryz.prog 94 #[.agg #[.int .i64 10, .int .i64 0, .int .i64 net, .int .i64 seq, .string d]] w fun e w' => e = .returned (.tuple #[strOf (ethB net seq d.data.toList), .int .i64 0]) ∧ Below w.heap.size w w' := by
  obtain ⟨n, hn'⟩ : ∃ n, n = d.size := ⟨_, rfl⟩
  have hz : d.size = n := hn'.symm
  have hn128 : n ≤ 128 := by omega
  have HD : Aside (d.data.toList.length = n) := ⟨by rw [str_len, hz]⟩
  have HN := Aside.mk hn
  have HNI : Aside ((net : Int) = 0 ∨ (net : Int) = 1) := ⟨by omega⟩
  obtain ⟨z, hzz⟩ : ∃ z : UInt8, z = (if net = 0 then 0x20 else 0x40) := ⟨_, rfl⟩
  have HZZ : Aside (macSB net = [2, 0, 0, 0, 0, z]) := ⟨by rw [hzz]; rfl⟩
  have HMS : Aside (macS (net : Int) = (byteCells [2, 0, 0, 0, 0, z]).toArray) := ⟨by
    rw [hzz]; unfold macS
    rcases hn with rfl | rfl <;> rfl⟩
  clear hzz
  clear hl hn' hn
  go_enter Tryz.func94, Tryz.ntmps94
  go_wp2_with (fail)
  obtain ⟨b, hb⟩ : ∃ b, b = w.heap.size := ⟨_, rfl⟩
  have HF : Aside (Blk (w.alloc (.cells (frC net seq d) 117)) b 117 (frC net seq d)) := ⟨by rw [hb]; exact Blk.new _ _ _⟩
  have HW : Aside (Below w.heap.size w (w.alloc (.cells (frC net seq d) 117))) := ⟨(Below.refl _ _).alloc (Nat.le_refl _) _⟩
  change Calls _ _ _ (w.alloc (.cells (frC net seq d) 117)) _
  rw [← hb] at HW ⊢
  have HBE := Aside.mk hb
  generalize w.alloc (.cells (frC net seq d) 117) = W at *
  clear hb
  refine (link_calls W).mono ?_
  rintro e w1 ⟨rfl, h1⟩
  replace HW := Aside.mk (below_then HW.out (Nat.le_of_lt HF.out.lt) h1)
  replace HF := Aside.mk (HF.out.below h1)
  have HM := Aside.mk (Blk.new w1 290 macL)
  have hsz : (w1.alloc (.cells macL 290)).heap.size = w1.heap.size + 1 := by simp
  replace HW := Aside.mk (HW.out.alloc (Nat.le_of_lt HF.out.lt) (.cells macL 290))
  replace HF := Aside.mk (HF.out.alloc (.cells macL 290))
  obtain ⟨c0, c1, c2, c3, c4⟩ := F5.of HF.out
  clear h1
  unfold macL at *
  go_wp2_with (fail)
  generalize hW2 : w1.alloc (.cells #[.int .u8 3, .int .u8 0, .int .u8 0, .int .u8 0, .int .u8 0, .int .u8 10] 290) = W2 at *
  obtain ⟨g, hg⟩ : ∃ g, g = w1.heap.size := ⟨_, rfl⟩
  rw [← hg] at HM hsz ⊢
  clear hW2 hg
  refine (source_calls net HNI.out W2).mono ?_
  rintro e w2 ⟨rfl, h2⟩
  rw [HMS.out]
  simp only [byteCells, List.map_cons, List.map_nil]
  replace HW := Aside.mk (below_then HW.out (Nat.le_of_lt HF.out.lt) h2)
  replace HF := Aside.mk (HF.out.below h2)
  replace HM := Aside.mk (HM.out.below h2)
  have hb2 := HF.out.lt
  have HS := Aside.mk (Blk.new w2 290 (byteCells [2, 0, 0, 0, 0, z]).toArray)
  replace HW := Aside.mk (HW.out.alloc (Nat.le_of_lt HF.out.lt) (.cells (byteCells [2, 0, 0, 0, 0, z]).toArray 290))
  replace HF := Aside.mk (HF.out.alloc (.cells (byteCells [2, 0, 0, 0, 0, z]).toArray 290))
  replace HM := Aside.mk (HM.out.alloc (.cells (byteCells [2, 0, 0, 0, 0, z]).toArray 290))
  have hg2 : g < w2.heap.size := by have := h2.size; omega
  have HBG : Aside (b < w2.heap.size ∧ g < w2.heap.size) := ⟨hb2, hg2⟩
  clear h2 hsz c0 c1 c2 c3 c4 hg2 hb2
  go_wp2_with (fail)
  have hw := wr_new (w2.alloc (.cells (byteCells [2, 0, 0, 0, 0, z]).toArray 290))
  have hsz : (w2.alloc (.cells (byteCells [2, 0, 0, 0, 0, z]).toArray 290)).heap.size = w2.heap.size + 1 := by simp
  rw [hsz] at hw
  obtain ⟨g6, hg6⟩ : ∃ g6, g6 = w2.heap.size := ⟨_, rfl⟩
  replace HW := Aside.mk (HW.out.alloc (by rw [hsz]; have := HBG.out.1; omega) (.cells #[.slice none 0 0, .bool false] 244))
  replace HF := Aside.mk (HF.out.alloc (.cells #[.slice none 0 0, .bool false] 244))
  replace HM := Aside.mk (HM.out.alloc (.cells #[.slice none 0 0, .bool false] 244))
  replace HS := Aside.mk (HS.out.alloc (.cells #[.slice none 0 0, .bool false] 244))
  have H2 : Aside (WrAt (w2.heap.size + 1) (w2.heap.size + 1) [] ((w2.alloc (.cells (byteCells [2, 0, 0, 0, 0, z]).toArray 290)).alloc (.cells #[.slice none 0 0, .bool false] 244)) ((w2.alloc (.cells (byteCells [2, 0, 0, 0, 0, z]).toArray 290)).alloc (.cells #[.slice none 0 0, .bool false] 244))) := ⟨⟨hw.wr, Below.refl _ _, hw.size⟩⟩
  change Code.wp _ _ _ _ ((w2.alloc (.cells (byteCells [2, 0, 0, 0, 0, z]).toArray 290)).alloc (.cells #[.slice none 0 0, .bool false] 244))
  rw [← hg6] at HBG H2 HS ⊢
  generalize (w2.alloc (.cells (byteCells [2, 0, 0, 0, 0, z]).toArray 290)).alloc (.cells #[.slice none 0 0, .bool false] 244) = V at *
  clear hw hsz hg6
  have es4 : (convert 45 9 (.slice (some ⟨g, 0, none⟩) 6 6)).run Tryz.prog V.drew = .ok (strOf macLB) V.drew := mac_str macLB rfl HM.out.drew
  have es6 : (convert 45 9 (.slice (some ⟨g6, 0, none⟩) 6 6)).run Tryz.prog V.drew = .ok (strOf [2, 0, 0, 0, 0, z]) V.drew := mac_str [2, 0, 0, 0, 0, z] rfl HS.out.drew
  have H3 : Aside (WrAt (g6 + 1) (g6 + 1) [] V V.drew) := ⟨⟨⟨H2.out.wr.out⟩, H2.out.below.drew, H2.out.size⟩⟩
  have HT : Aside (([] : List UInt8).length + ((⟨macLB.toArray⟩ : ByteArray) ++ ⟨([2, 0, 0, 0, 0, z] : List UInt8).toArray⟩).size ≤ 5000) := ⟨by rw [ByteArray.size_append, mk_size macLB, mk_size [2, 0, 0, 0, 0, z]]; simp [macLB]⟩
  obtain ⟨J, hJ⟩ : ∃ J : World → Prop, J = fun w' => WrAt (g6 + 1) (g6 + 1) (macLB ++ [2, 0, 0, 0, 0, z]) V w' := ⟨_, rfl⟩
  have HJ := Aside.mk hJ
  clear hJ H2
  unfold strOf at es4 es6
  refine region_post 32 7 J (by simp) ?_ ?_
  · go_region_with (go_at_call 101; refine (wrText_calls _ _ _ _ _ H3.out.wr HT.out H3.out.size).mono ?_; rintro e w6 ⟨rfl, h6⟩; have H6 := Aside.mk (H3.out.step h6); clear h6)
    all_goals exact ⟨by rw [HJ.out]; have := H6.out; simpa using this, rfl, rfl, rfl, rfl⟩
  intro xs w6 hx h6
  rw [HJ.out] at h6
  obtain ⟨y0, y1, y2, y3, y4, y5, y6, rfl⟩ : ∃ x0 x1 x2 x3 x4 x5 x6, xs = [x0, x1, x2, x3, x4, x5, x6] := by
    match xs, hx with
    | [x0, x1, x2, x3, x4, x5, x6], _ => exact ⟨x0, x1, x2, x3, x4, x5, x6, rfl⟩
  simp only [List.take_succ_cons, List.take_zero, List.drop_succ_cons, List.drop_zero, List.cons_append, List.nil_append]
  have H2 := Aside.mk h6
  clear h6 H3 hx HJ HT es4 es6
  go_wp2_with (go_at_call 98; refine (wr16_calls _ _ _ _ _ H2.out.wr (by decide) (by decide) (by simp [macLB]) H2.out.size).mono ?_; rintro e w2 ⟨rfl, h2⟩; replace H2 := Aside.mk (H2.out.step h2); clear h2)
  obtain ⟨u, hu⟩ : ∃ u : ByteArray, u = ⟨(List.replicate (45 - n) (0 : UInt8)).toArray⟩ := ⟨_, rfl⟩
  have hus : u.size = 45 - n := by rw [hu, mk_size, List.length_replicate]
  have hus45 : u.size ≤ 45 := by omega
  have HRP : Aside (strOf (List.replicate (45 - n) (0 : UInt8)) = .string u) := ⟨by rw [hu]; rfl⟩
  have HUU := Aside.mk hu
  clear hu
  have H3 : Aside (WrAt (g6 + 1) (g6 + 1) (macLB ++ [2, 0, 0, 0, 0, z] ++ be16 2048) V w2.drew) := ⟨⟨⟨H2.out.wr.out⟩, H2.out.below.drew, H2.out.size⟩⟩
  have HF3 : Aside (Blk w2.drew b 117 (frC net seq d)) := ⟨(H3.out.below.block b (by have := HBG.out.1; omega)).trans HF.out⟩
  have d4 : w2.cell? ⟨b, 4, none⟩ = some (.string d) := (F5.of HF3.out).c4
  have d4' : w2.drew.cell? ⟨b, 4, none⟩ = some (.string d) := (F5.of HF3.out).c4
  have HT : Aside ((macLB ++ [2, 0, 0, 0, 0, z] ++ be16 2048).length + (d ++ u).size ≤ 5000) := ⟨by rw [ByteArray.size_append]; simp [macLB, be16_len]; omega⟩
  obtain ⟨J3, hJ⟩ : ∃ J : World → Prop, J = fun w' => WrAt (g6 + 1) (g6 + 1) (macLB ++ [2, 0, 0, 0, 0, z] ++ be16 2048 ++ (d ++ u).data.toList) V w' := ⟨_, rfl⟩
  have HJ3 := Aside.mk hJ
  have HC : Aside (∀ W : World, Calls Tryz.prog 141 #[.string ⟨#[0]⟩, .int .i64 (max (IntKind.i64.wrap (45 - (n : Int))) 0)] W fun e w' => e = .returned (.string u) ∧ Below W.heap.size W w') := ⟨fun W => by
    have h1 := rep_calls (45 - n) (by omega) W
    have h2 : max (IntKind.i64.wrap (45 - (n : Int))) 0 = ((45 - n : Nat) : Int) := by
      rw [IntWalk.i64_in _ (by omega)]; omega
    rw [HRP.out, ← h2] at h1
    exact h1⟩
  clear hJ H2
  refine region_post 41 11 J3 (by simp) ?_ ?_
  · go_region_with (first | (go_at_call 141; refine (HC.out _).mono ?_; rintro e w7 ⟨rfl, h7⟩; have H4 := Aside.mk (H3.out.keep h7); have d5 : w7.cell? ⟨b, 4, none⟩ = some (.string d) := (F5.of (HF3.out.below h7)).c4; clear h7) | (go_at_call 101; refine (wrText_calls _ _ _ _ _ H4.out.wr HT.out H4.out.size).mono ?_; rintro e w6 ⟨rfl, h6⟩; have H6 := Aside.mk (H4.out.step h6); clear h6)) --LONG
    all_goals exact ⟨by rw [HJ3.out]; exact H6.out, rfl, rfl, rfl, rfl⟩ --END
  intro xs w7 hx h7
  rw [HJ3.out] at h7
  obtain ⟨x0, x1, x2, x3, x4, x5, x6, x7, x8, x9, x10, rfl⟩ : ∃ x0 x1 x2 x3 x4 x5 x6 x7 x8 x9 x10, xs = [x0, x1, x2, x3, x4, x5, x6, x7, x8, x9, x10] := by
    match xs, hx with
    | [x0, x1, x2, x3, x4, x5, x6, x7, x8, x9, x10], _ => exact ⟨x0, x1, x2, x3, x4, x5, x6, x7, x8, x9, x10, rfl⟩
  simp only [List.take_succ_cons, List.take_zero, List.drop_succ_cons, List.drop_zero, List.cons_append, List.nil_append]
  have H5 := Aside.mk h7
  clear h7 H3 hx HJ3 HT HF3 d4 d4'
  obtain ⟨c0, c1, c2, c3, c4⟩ := F5.of ((H5.out.below.block b (by have := HBG.out.1; omega)).trans HF.out)
  have HL : Aside ((macLB ++ [2, 0, 0, 0, 0, z] ++ be16 2048 ++ (d ++ u).data.toList).length ≤ 4000) := ⟨by
    rw [List.length_append, str_len, ByteArray.size_append]; simp [macLB, be16_len]; omega⟩
  have hseq : (seq : Int) < 256 := by omega
  have hseq0 : (0 : Int) ≤ (seq : Int) := by omega
  go_wp2_with (go_at_call 105; refine (wr8_calls _ _ _ _ _ H5.out.wr hseq0 hseq HL.out H5.out.size).mono ?_; rintro e w8 ⟨rfl, h8⟩; replace H5 := Aside.mk (H5.out.step h8); clear h8; obtain ⟨c0, c1, c2, c3, c4⟩ := F5.of ((H5.out.below.block b (by have := HBG.out.1; omega)).trans HF.out))
  obtain ⟨l, hl⟩ : ∃ l, l = macLB ++ [2, 0, 0, 0, 0, z] ++ be16 2048 ++ (d ++ u).data.toList ++ [UInt8.ofNat (seq : Int).toNat] := ⟨_, rfl⟩
  rw [← hl] at H5
  have hll : l.length ≤ 4000 := by rw [hl, List.length_append, List.length_append, str_len, ByteArray.size_append]; simp [macLB, be16_len]; omega
  have HLL := Aside.mk hll
  have HE : Aside (strOf (sealB l) = strOf (ethB net seq d.data.toList)) := ⟨by
    have hm := HZZ.out
    have hd := HD.out
    have e : l = [3, 0, 0, 0, 0, 10] ++ [2, 0, 0, 0, 0, (if net = 0 then 0x20 else 0x40)] ++ [8, 0] ++ d.data.toList ++ List.replicate (45 - d.data.toList.length) 0 ++ [UInt8.ofNat seq] := by
      rw [hl, hd, HUU.out]
      unfold macSB at hm
      rw [← hm]
      simp [macLB, be16]
    unfold ethB
    rw [e]⟩
  clear hl hll c0 c1 c2 c3
  go_wp2_with (first | (go_at_call 99; refine (wrBytes_calls _ _ _ _ H5.out.wr).mono ?_; rintro e w2 ⟨rfl, rfl⟩) | (go_at_call 142; refine (seal_calls l _ HLL.out).mono ?_; rintro e w9 ⟨rfl, h9⟩; have H9 := Aside.mk h9; clear h9))
  rw [HE.out]
  go_ret2
  refine ⟨rfl, ?_⟩
  have hw := HW.out
  rw [HBE.out] at hw
  exact below_then (hw.trans ⟨H5.out.below.os, H5.out.below.tape, H5.out.below.output, H5.out.below.size, fun k hk => H5.out.below.block k (by have := HBG.out.1; have := HBE.out; omega)⟩) (by have := hw.size; have := H5.out.below.size; omega) H9.out
end Go.Proofs.YtdgjcjhicbgfaaaGreat
