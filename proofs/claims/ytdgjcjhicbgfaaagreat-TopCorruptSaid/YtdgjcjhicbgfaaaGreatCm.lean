/- A packet made. Conditions: the text is short, the ends those of this program. -/
import Derived.Test.YtdgjcjhicbgfaaaGreatMh
set_option linter.unusedVariables false
set_option linter.unusedSimpArgs false
namespace Go.Proofs.YtdgjcjhicbgfaaaGreat
open Go.RowKit Go.Lib
set_option linter.unusedVariables false
set_option linter.unusedSimpArgs false
set_option maxRecDepth 20000

theorem flag_calls (w : World) : Calls Tryz.prog 108 #[.bool false] w fun e w' => e = .returned (.int .i64 0) ∧ w = w' := by
  go_enter Tryz.func108, Tryz.ntmps108
  go_wp2
  go_ret
  exact ⟨rfl, rfl⟩
theorem parts_calls (w : World) : Calls Tryz.prog 107 #[] w fun e w' => e = .returned (.slice (some ⟨w.heap.size, 0, none⟩) 3 3) ∧ Ints3 w' w.heap.size 2 1 13 ∧ Below w.heap.size w w' := by
  go_enter Tryz.func107, Tryz.ntmps107
  go_wp2
  go_ret
  refine ⟨rfl, ?_, (Below.refl _ _).alloc (Nat.le_refl _) _⟩
  have hb := Blk.new w 3 #[.int .i64 2, .int .i64 1, .int .i64 13]
  exact ⟨hb.cell 0, hb.cell 1, hb.cell 2⟩
/-- Only the slots from lo on, k of them, have turned. -/
structure SameBut (lo k : Nat) (a a' : Act) : Prop where
  defers : a'.defers = a.defers
  front : a'.tmps.toList.take lo = a.tmps.toList.take lo
  back : a'.tmps.toList.drop (lo + k) = a.tmps.toList.drop (lo + k)
  size : a'.tmps.size = a.tmps.size
def RegP (lo k : Nat) (J : World → Prop) (a : Act) (a' : Act) (w' : World) : Prop := J w' ∧ SameBut lo k a a'
def NoExit (_ : Exit) (_ : Act) (_ : World) : Prop := False
theorem SameBut.act {lo k : Nat} {a a' : Act} (h : SameBut lo k a a') (hk : lo + k ≤ a.tmps.size) : ∃ xs : List Value, xs.length = k ∧ a' = { a with tmps := (a.tmps.toList.take lo ++ (xs ++ a.tmps.toList.drop (lo + k))).toArray } := by
  refine ⟨(a'.tmps.toList.drop lo).take k, ?_, ?_⟩
  · rw [List.length_take, List.length_drop, Array.length_toList, h.size]; omega
  · obtain ⟨t', d'⟩ := a'
    have hd : d' = a.defers := h.defers
    subst hd
    have ht : t' = (a.tmps.toList.take lo ++ ((t'.toList.drop lo).take k ++ a.tmps.toList.drop (lo + k))).toArray := by
      apply Array.ext'
      rw [← h.front, ← h.back]
      show t'.toList = t'.toList.take lo ++ ((t'.toList.drop lo).take k ++ t'.toList.drop (lo + k))
      rw [show t'.toList.drop (lo + k) = (t'.toList.drop lo).drop k by rw [List.drop_drop], List.take_append_drop, List.take_append_drop]
    show Act.mk t' _ = Act.mk _ _
    rw [← ht]
/-- A region of which only what it leaves of the world is told, and which slots it turns. -/
theorem region_post {P : Program} {c : Code} {Q : Exit → Act → World → Prop} {a : Act} {w : World} (lo k : Nat) (J : World → Prop) (hk : lo + k ≤ a.tmps.size) (h1 : c.wp P (Exit.then (RegP lo k J a) NoExit) a w)
    (h2 : ∀ (xs : List Value) w', xs.length = k → J w' → Q .normal { a with tmps := (a.tmps.toList.take lo ++ (xs ++ a.tmps.toList.drop (lo + k))).toArray } w') : c.wp P Q a w :=
  wp_mono h1 fun e a' w' h => by
    cases e with
    | normal => obtain ⟨hj, hs⟩ := h; obtain ⟨xs, hx, rfl⟩ := hs.act hk; exact h2 xs w' hx hj
    | _ => exact h.elim
theorem list9_of {xs : List Value} (h : xs.length = 9) : ∃ x0 x1 x2 x3 x4 x5 x6 x7 x8, xs = [x0, x1, x2, x3, x4, x5, x6, x7, x8] := by
  match xs, h with
  | [x0, x1, x2, x3, x4, x5, x6, x7, x8], _ => exact ⟨x0, x1, x2, x3, x4, x5, x6, x7, x8, rfl⟩
def ipC (id : Nat) (d : ByteArray) : Array Value := #[.int .i64 id, .bool false, .int .i64 0, .int .i64 1, .int .i64 17, .int .u8 10, .int .u8 0, .int .u8 0, .int .u8 0, .int .u8 224, .int .u8 224, .int .u8 0, .int .u8 10, .string d]
/-- The cells of a packet's head and text. -/
structure I14 (w : World) (b : Nat) (id : Nat) (d : ByteArray) : Prop where
  c0 : w.cell? ⟨b, 0, none⟩ = some (.int .i64 id)
  c1 : w.cell? ⟨b, 1, none⟩ = some (.bool false)
  c2 : w.cell? ⟨b, 2, none⟩ = some (.int .i64 0)
  c3 : w.cell? ⟨b, 3, none⟩ = some (.int .i64 1)
  c4 : w.cell? ⟨b, 4, none⟩ = some (.int .i64 17)
  c13 : w.cell? ⟨b, 13, none⟩ = some (.string d)
  src : (convert 45 9 (.slice (some ⟨b, 5, none⟩) 4 4)).run Tryz.prog w = .ok (.string ⟨srcB.toArray⟩) w
  dst : (convert 45 9 (.slice (some ⟨b, 9, none⟩) 4 4)).run Tryz.prog w = .ok (.string ⟨dstB.toArray⟩) w
theorem cells_str_at {w : World} {b o : Nat} {l : List UInt8} (q : Nat) (h : ∀ (j : Nat) (x : UInt8), l[j]? = some x → w.cell? ⟨b, o + j, none⟩ = some (.int .u8 x.toNat)) : (convert 45 9 (.slice (some ⟨b, o, none⟩) l.length q)).run Tryz.prog w = .ok (strOf l) w := by
  refine run_convert_bytes_back w 45 9 5 ⟨b, o, none⟩ q l under45 (by kernel_rfl) (by kernel_rfl) ?_
  intro j hj
  have e : (⟨b, o, none⟩ : Addr).add j = ⟨b, o + j, none⟩ := by unfold Addr.add; split <;> simp_all
  rw [e]
  exact h j _ (List.getElem?_eq_getElem hj)
theorem I14.of {w : World} {b t : Nat} {id : Nat} {d : ByteArray} (h : Blk w b t (ipC id d)) : I14 w b id d := by
  refine ⟨h.cell 0, h.cell 1, h.cell 2, h.cell 3, h.cell 4, h.cell 13, ?_, ?_⟩
  · refine cells_str_at (l := srcB) 4 ?_
    intro j x hj
    rw [h.cell]
    match j, hj with
    | 0, hj | 1, hj | 2, hj | 3, hj => cases hj; rfl
    | (j + 4), hj => cases hj
  · refine cells_str_at (l := dstB) 4 ?_
    intro j x hj
    rw [h.cell]
    match j, hj with
    | 0, hj | 1, hj | 2, hj | 3, hj => cases hj; rfl
    | (j + 4), hj => cases hj
theorem bits_fresh {B p q1 q2 : Nat} {bs : List UInt8} {w w1 w2 : World} (h : WrAt B p bs w w1) (hb : Below w1.heap.size w1 w2) (hi : Ints3 w2 w1.heap.size 2 1 13) (hl : bs.length ≤ 4000) :
    Calls Tryz.prog 106 #[.pointer (some ⟨p, 0, none⟩), .slice (some ⟨w1.heap.size, 0, none⟩) 3 q1, .slice (some ⟨w2.heap.size, 0, none⟩) 3 q2] (w2.alloc (.cells #[.int .i64 0, .int .i64 0, .int .i64 0] 3)) fun e w' => e = .returned (.tuple #[]) ∧ WrAt B p (bs ++ [0, 0]) w w' := by
  have h2 := h.keep hb
  have hba : Below w2.heap.size w2 (w2.alloc (.cells #[.int .i64 0, .int .i64 0, .int .i64 0] 3)) := (Below.refl _ _).alloc (Nat.le_refl _) _
  have h3 := h2.keep hba
  have hnew := Blk.new w2 3 #[.int .i64 0, .int .i64 0, .int .i64 0]
  obtain ⟨v, hbk, _⟩ := h.wr.out
  have hp := hbk.lt
  have hsz := hb.size
  refine (wrBits_calls B p bs w1.heap.size w2.heap.size q1 q2 _ h3.wr ?_ ⟨hnew.cell 0, hnew.cell 1, hnew.cell 2⟩ (by omega) (by omega) hl h3.size).mono ?_
  · exact ints_below hi (hba.block _ hi.lt)
  · rintro e w' ⟨rfl, h4⟩
    exact ⟨rfl, h3.step h4⟩
set_option maxHeartbeats 4000000 in
theorem ienc_calls (id : Nat) (d : ByteArray) (w : World) (hl : d.size ≤ 108) (hid : id < 65536) : Calls Tryz.prog 68 #[.agg (ipC id d)] w fun e w' => e = .returned (.tuple #[strOf (ipB id d.data.toList), .int .i64 0]) ∧ Below w.heap.size w w' := by
  unfold ipC
  go_enter Tryz.func68, Tryz.ntmps68
  go_wp2_with (fail)
  have hw := wr_new (w.alloc (.cells (ipC id d) 121))
  have hu : Blk ((w.alloc (.cells (ipC id d) 121)).alloc (.cells #[.slice none 0 0, .bool false] 244)) w.heap.size 121 (ipC id d) := (Blk.new w 121 (ipC id d)).alloc _
  have hbel : Below w.heap.size w ((w.alloc (.cells (ipC id d) 121)).alloc (.cells #[.slice none 0 0, .bool false] 244)) := ((Below.refl _ _).alloc (Nat.le_refl _) _).alloc (by simp) _
  have hsz : (w.alloc (.cells (ipC id d) 121)).heap.size = w.heap.size + 1 := by simp
  rw [hsz] at hw
  have H2 : Aside (WrAt (w.heap.size + 1) (w.heap.size + 1) [] ((w.alloc (.cells (ipC id d) 121)).alloc (.cells #[.slice none 0 0, .bool false] 244)) ((w.alloc (.cells (ipC id d) 121)).alloc (.cells #[.slice none 0 0, .bool false] 244))) := ⟨⟨hw.wr, Below.refl _ _, hw.size⟩⟩
  clear hw hsz
  change Calls _ _ _ ((w.alloc (.cells (ipC id d) 121)).alloc (.cells #[.slice none 0 0, .bool false] 244)) _
  generalize (w.alloc (.cells (ipC id d) 121)).alloc (.cells #[.slice none 0 0, .bool false] 244) = W at *
  have HU := Aside.mk hu
  have HW := Aside.mk hbel
  clear hu hbel
  obtain ⟨b, hb⟩ : ∃ b, b = w.heap.size := ⟨_, rfl⟩
  rw [← hb] at HU H2 ⊢
  have HBE := Aside.mk hb
  clear hb
  go_wp2_with (first | (go_at_call 105; refine (wr8_calls _ _ _ _ _ H2.out.wr (by first | decide | omega) (by first | decide | omega) (by simp only [List.length_append, be16_len, srcB_len, dstB_len, mk_size, str_len, List.length_nil, List.length_singleton]; omega) H2.out.size).mono ?_; rintro e w2 ⟨rfl, h2⟩; replace H2 := Aside.mk (H2.out.step h2); clear h2; obtain ⟨e0, e1, e2, e3, e4, e13, es, ed⟩ := I14.of ((H2.out.below.block b (Nat.lt_succ_self b)).trans HU.out)) | (go_at_call 98; refine (wr16_calls _ _ _ _ _ H2.out.wr (by first | decide | omega) (by first | decide | omega) (by simp only [List.length_append, be16_len, srcB_len, dstB_len, mk_size, str_len, List.length_nil, List.length_singleton]; omega) H2.out.size).mono ?_; rintro e w2 ⟨rfl, h2⟩; replace H2 := Aside.mk (H2.out.step h2); clear h2; obtain ⟨e0, e1, e2, e3, e4, e13, es, ed⟩ := I14.of ((H2.out.below.block b (Nat.lt_succ_self b)).trans HU.out)))
  replace H2 : Aside (WrAt (b + 1) (b + 1) ([0x45, 0] ++ be16 (20 + d.size) ++ be16 id) W w2) := ⟨by
    have := H2.out
    rw [show (20 + (d.size : Int)).toNat = 20 + d.size by omega, show (id : Int).toNat = id by omega] at this
    exact this⟩
  have H3 : Aside (WrAt (b + 1) (b + 1) ([0x45, 0] ++ be16 (20 + d.size) ++ be16 id) W w2.drew) := ⟨⟨⟨H2.out.wr.out⟩, H2.out.below.drew, H2.out.size⟩⟩
  clear H2
  have f0 := e0
  replace e1 : w2.drew.cell? ⟨b, 1, none⟩ = some (.bool false) := e1
  replace e2 : w2.drew.cell? ⟨b, 2, none⟩ = some (.int .i64 0) := e2
  have HUd : Aside (Blk w2.drew b 121 (ipC id d)) := ⟨(H3.out.below.block b (Nat.lt_succ_self b)).trans HU.out⟩
  refine region_post 25 9 (fun w' => WrAt (b + 1) (b + 1) ([0x45, 0] ++ be16 (20 + d.size) ++ be16 id ++ [0, 0]) W w') (by simp) ?_ ?_
  · go_region_with (first | (go_at_call 107; refine (parts_calls _).mono ?_; rintro e w4 ⟨rfl, hi4, hb4⟩; have HI4 := Aside.mk hi4; have HB4 := Aside.mk hb4; obtain ⟨p0, p1, p2, p3, p4, p13, ps, pd⟩ := I14.of (HUd.out.below hb4); clear hi4 hb4) | (go_at_call 108; refine (flag_calls _).mono ?_; rintro e w5 ⟨rfl, rfl⟩) | (go_at_call 106; refine (bits_fresh H3.out HB4.out HI4.out (by simp [be16_len])).mono ?_; rintro e w6 ⟨rfl, h6⟩; have H6 := Aside.mk h6; clear h6)) --LONG
    all_goals exact ⟨H6.out, rfl, rfl, rfl, rfl⟩ --END
  intro xs w6 hx h6
  obtain ⟨x0, x1, x2, x3, x4, x5, x6, x7, x8, rfl⟩ := list9_of hx
  simp only [List.take_succ_cons, List.take_zero, List.drop_succ_cons, List.drop_zero, List.cons_append, List.nil_append]
  have H2 := Aside.mk h6
  clear h6 e0 e3 e4 e13 es ed e1 e2 f0 H3 HUd
  obtain ⟨e0, e1, e2, e3, e4, e13, es, ed⟩ := I14.of ((H2.out.below.block b (Nat.lt_succ_self b)).trans HU.out)
  go_wp2_with (first | (go_at_call 105; refine (wr8_calls _ _ _ _ _ H2.out.wr (by first | decide | omega) (by first | decide | omega) (by simp [be16_len]) H2.out.size).mono ?_; rintro e w2 ⟨rfl, h2⟩; replace H2 := Aside.mk (H2.out.step h2); clear h2; obtain ⟨e0, e1, e2, e3, e4, e13, es, ed⟩ := I14.of ((H2.out.below.block b (Nat.lt_succ_self b)).trans HU.out)) | (go_at_call 98; refine (wr16_calls _ _ _ _ _ H2.out.wr (by first | decide | omega) (by first | decide | omega) (by simp [be16_len]) H2.out.size).mono ?_; rintro e w2 ⟨rfl, h2⟩; replace H2 := Aside.mk (H2.out.step h2); clear h2; obtain ⟨e0, e1, e2, e3, e4, e13, es, ed⟩ := I14.of ((H2.out.below.block b (Nat.lt_succ_self b)).trans HU.out)))
  have H3 : Aside (WrAt (b + 1) (b + 1) ((ipHead id d.size).1 ++ [0, 0]) W w2.drew) := ⟨⟨⟨by
    have := H2.out.wr.out
    have e : [0x45, 0] ++ be16 (20 + d.size) ++ be16 id ++ [0, 0] ++ [UInt8.ofNat (Int.toNat 1)] ++ [UInt8.ofNat (Int.toNat 17)] ++ be16 (Int.toNat 0) = (ipHead id d.size).1 ++ [0, 0] := by
      unfold ipHead; simp [be16]
    rw [e] at this
    exact this⟩, H2.out.below.drew, H2.out.size⟩⟩
  obtain ⟨_, _, _, _, _, _, es2, ed2⟩ := I14.of ((H3.out.below.block b (Nat.lt_succ_self b)).trans HU.out)
  clear H2 e0 e1 e2 e3 e4 es ed
  have HT : Aside (((ipHead id d.size).1 ++ [0, 0]).length + ((⟨srcB.toArray⟩ : ByteArray) ++ ⟨dstB.toArray⟩).size ≤ 5000) := ⟨by rw [ByteArray.size_append, mk_size srcB, mk_size dstB, srcB_len, dstB_len]; simp [ipHead, be16_len]⟩
  obtain ⟨J, hJ⟩ : ∃ J : World → Prop, J = fun w' => WrAt (b + 1) (b + 1) ((ipHead id d.size).1 ++ [0, 0] ++ (srcB ++ dstB)) W w' := ⟨_, rfl⟩
  have HJ := Aside.mk hJ
  clear hJ
  refine region_post 44 9 J (by simp) ?_ ?_
  · go_region_with (go_at_call 101; refine (wrText_calls _ _ _ _ _ H3.out.wr HT.out H3.out.size).mono ?_; rintro e w6 ⟨rfl, h6⟩; have H6 := Aside.mk (H3.out.step h6); clear h6)
    all_goals exact ⟨by rw [HJ.out]; have := H6.out; simpa using this, rfl, rfl, rfl, rfl⟩
  intro xs w6 hx h6
  rw [HJ.out] at h6
  obtain ⟨x0, x1, x2, x3, x4, x5, x6, x7, x8, rfl⟩ := list9_of hx
  simp only [List.take_succ_cons, List.take_zero, List.drop_succ_cons, List.drop_zero, List.cons_append, List.nil_append]
  have H2 := Aside.mk h6
  clear h6 H3 es2 ed2
  obtain ⟨e0, e1, e2, e3, e4, e13, es, ed⟩ := I14.of ((H2.out.below.block b (Nat.lt_succ_self b)).trans HU.out)
  obtain ⟨s, hs⟩ : ∃ s, s = (⟨((ipHead id d.size).1 ++ [0, 0] ++ (srcB ++ dstB)).toArray⟩ : ByteArray) := ⟨_, rfl⟩
  have hz : s.size = 20 := by rw [hs, mk_size]; simp [ipHead, be16_len, srcB, dstB]
  have h10 : (ipHead id d.size).1.length = 10 := by simp [ipHead, be16_len]
  have hx1 : s.extract 0 10 = ⟨(ipHead id d.size).1.toArray⟩ := by
    rw [hs, ← h10, List.append_assoc]; exact extract_pre _ _
  have hx2 : s.extract 12 20 = ⟨(srcB ++ dstB).toArray⟩ := by
    have h12 : ((ipHead id d.size).1 ++ [0, 0]).length = 12 := by simp [h10]
    rw [hs, ← h12]
    exact extract_suf _ _ _ (by simp only [List.length_append, h10, srcB_len, dstB_len, List.length_cons, List.length_nil])
  have HO : Aside (onesB s.data.toList = onesB ((ipHead id d.size).1 ++ [0, 0] ++ (srcB ++ dstB))) := ⟨by rw [hs]⟩
  have HS : Aside (strOf ((ipHead id d.size).1 ++ [0, 0] ++ (srcB ++ dstB)) = .string s) := ⟨by rw [hs]; rfl⟩
  have HX1 := Aside.mk hx1
  have HX2 := Aside.mk hx2
  have H10 := Aside.mk h10
  clear hs hx1 hx2 h10 hx
  go_wp2_with (go_at_call 99; refine (wrBytes_calls _ _ _ _ H2.out.wr).mono ?_; rintro e w2 ⟨rfl, rfl⟩; rw [HS.out])
  have H5 := Aside.mk (wr_new w6)
  have HB6 : Aside (Blk w6 b 121 (ipC id d)) := ⟨(H2.out.below.block b (Nat.lt_succ_self b)).trans HU.out⟩
  have HBl : Aside (b < w6.heap.size) := ⟨HB6.out.lt⟩
  have HWB : Aside (Below w.heap.size w w6) := ⟨HW.out.trans ⟨H2.out.below.os, H2.out.below.tape, H2.out.below.output, H2.out.below.size, fun k hk => H2.out.below.block k (by have := HBE.out; omega)⟩⟩
  have HPW : Aside (w.heap.size ≤ w6.heap.size) := ⟨HWB.out.size⟩
  clear H2 HU HW e0 e1 e2 e3 e4 e13 es ed HJ HT
  obtain ⟨p, hp⟩ : ∃ p, p = w6.heap.size := ⟨_, rfl⟩
  rw [HX1.out]
  rw [← hp] at H5 HBl HPW ⊢
  clear hp
  refine (wrText_calls _ _ _ _ _ H5.out.wr (by simp [H10.out, mk_size]) H5.out.size).mono ?_
  rintro e w7 ⟨rfl, h7⟩
  replace H5 := Aside.mk (H5.out.step h7)
  clear h7
  have hones : onesB s.data.toList < 65536 := by unfold onesB; omega
  have HON := Aside.mk hones
  go_wp2_with (first | (go_at_call 109; refine (ones_calls _ _ (by omega)).mono ?_; rintro e w' ⟨rfl, rfl⟩) | (go_at_call 98; refine (wr16_calls _ _ _ _ _ H5.out.wr (by omega) (Int.ofNat_lt.2 HON.out) (by simp [H10.out]) H5.out.size).mono ?_; rintro e w2 ⟨rfl, h2⟩; replace H5 := Aside.mk (H5.out.step h2); clear h2; obtain ⟨e0, e1, e2, e3, e4, e13, es, ed⟩ := I14.of ((H5.out.below.block b HBl.out).trans HB6.out)))
  have H6 : Aside (WrAt p p ((ipHead id d.size).1 ++ be16 (onesB s.data.toList)) w6 w2.drew) := ⟨⟨⟨by have := H5.out.wr.out; rw [List.nil_append, Int.toNat_natCast] at this; exact this⟩, H5.out.below.drew, H5.out.size⟩⟩
  have HT : Aside (((ipHead id d.size).1 ++ be16 (onesB s.data.toList)).length + ((⟨(srcB ++ dstB).toArray⟩ : ByteArray) ++ d).size ≤ 5000) := ⟨by rw [ByteArray.size_append, mk_size (srcB ++ dstB), List.length_append, H10.out, List.length_append, srcB_len, dstB_len, be16_len]; omega⟩
  clear H5 e0 e1 e2 e3 e4 es ed
  replace e13 : w2.drew.cell? ⟨b, 13, none⟩ = some (.string d) := e13
  have hx2 := HX2.out
  obtain ⟨u, hu⟩ : ∃ u, u = (⟨(srcB ++ dstB).toArray⟩ : ByteArray) := ⟨_, rfl⟩
  rw [← hu] at HT hx2
  have hu8 : u.size = 8 := by rw [hu, mk_size (srcB ++ dstB), List.length_append, srcB_len, dstB_len]
  have HUU := Aside.mk hu
  clear hu
  obtain ⟨J2, hJ⟩ : ∃ J : World → Prop, J = fun w' => WrAt p p ((ipHead id d.size).1 ++ be16 (onesB s.data.toList) ++ (u ++ d).data.toList) w6 w' := ⟨_, rfl⟩
  have HJ := Aside.mk hJ
  clear hJ
  refine region_post 77 7 J2 (by simp) ?_ ?_
  · go_region_with (go_at_call 101; refine (wrText_calls _ _ _ _ _ H6.out.wr HT.out H6.out.size).mono ?_; rintro e w8 ⟨rfl, h8⟩; have H8 := Aside.mk (H6.out.step h8); clear h8)
    all_goals exact ⟨by rw [HJ.out]; exact H8.out, rfl, rfl, rfl, rfl⟩
  intro xs w8 hx h8
  rw [HJ.out] at h8
  obtain ⟨y0, y1, y2, y3, y4, y5, y6, rfl⟩ : ∃ x0 x1 x2 x3 x4 x5 x6, xs = [x0, x1, x2, x3, x4, x5, x6] := by
    match xs, hx with
    | [x0, x1, x2, x3, x4, x5, x6], _ => exact ⟨x0, x1, x2, x3, x4, x5, x6, rfl⟩
  simp only [List.take_succ_cons, List.take_zero, List.drop_succ_cons, List.drop_zero, List.cons_append, List.nil_append]
  have H2 := Aside.mk h8
  clear h8 H6 hx
  have HR : Aside (strOf ((ipHead id d.size).1 ++ be16 (onesB s.data.toList) ++ (u ++ d).data.toList) = strOf (ipB id d.data.toList)) := ⟨by
    rw [HUU.out, HO.out]
    unfold ipB
    rw [str_len]
    simp only [ipHead, ByteArray.data_append, Array.toList_append, List.append_assoc]⟩
  go_wp2_with (go_at_call 99; refine (wrBytes_calls _ _ _ _ H2.out.wr).mono ?_; rintro e w2 ⟨rfl, rfl⟩)
  go_ret2
  exact ⟨by rw [← HR.out]; rfl, HWB.out.trans ⟨H2.out.below.os, H2.out.below.tape, H2.out.below.output, H2.out.below.size, fun k hk => H2.out.below.block k (by have := HPW.out; omega)⟩⟩
end Go.Proofs.YtdgjcjhicbgfaaaGreat
