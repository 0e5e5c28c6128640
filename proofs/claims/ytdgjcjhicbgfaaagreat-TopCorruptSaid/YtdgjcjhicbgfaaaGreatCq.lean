/- A frame read. Conditions: it is one that was made here, or one whose sum is wrong. -/
import Derived.Test.YtdgjcjhicbgfaaaGreatCp
set_option linter.unusedVariables false
set_option linter.unusedSimpArgs false
namespace Go.Proofs.YtdgjcjhicbgfaaaGreat
open Go.RowKit Go.Lib
set_option linter.unusedVariables false
set_option linter.unusedSimpArgs false
set_option maxRecDepth 20000

theorem under290 : Tryz.prog.underlying 290 = some (.array 6 5) := by kernel_rfl
theorem upon_grow {p : Nat} {w w1 w2 : World} (h : Upon (· = p) w w1) (hb : Below w1.heap.size w1 w2) : Upon (· = p) w w2 := h.trans (Upon.of_below hb)
/-- What the reading of the two addresses keeps: the reader, and what is not of it. -/
structure ED (w0 w : World) (p : Nat) (l : List UInt8) : Prop where
  rd : RdL w p l
  upon : Upon (· = p) w0 w
  lt : p < w0.heap.size
theorem ED.move {w0 w w' : World} {p : Nat} {l l' : List UInt8} (h : ED w0 w p l) (hr : RdL w' p l') (hu : Upon (· = p) w w') : ED w0 w' p l' := ⟨hr, h.upon.trans hu, h.lt⟩
theorem ED.grow {w0 w w' : World} {p : Nat} {l : List UInt8} (h : ED w0 w p l) (hb : Below w.heap.size w w') : ED w0 w' p l := ⟨h.rd.keep (hb.block p h.rd.lt), upon_grow h.upon hb, h.lt⟩
theorem results_mid {P : Program} {fn : Func} {p u v : Tmp} {ty : TypeId} (h : fn.results = #[.tmp u, .cell p ty, .tmp v]) (tmps : Array Value) (w : World) (g : Nat) (t : TypeId) (cs : Array Value) (fr : Nat × Nat)
    (hp : tmps.getD p undef = .pointer (some ⟨g, 0, none⟩)) (hg : w.heap[g]? = some (.cells cs t fr))
    (hud : (P.underlying ty).any (fun d => match d with | .struct _ | .array _ _ => true | _ => false) = true) (hi : (P.info? ty).map (·.size) = some cs.size) :
    (results fn tmps).run P w = .ok (.tuple #[tmps.getD u undef, .agg cs, tmps.getD v undef]) w := by
  have hp' : tmps[p]?.getD undef = .pointer (some ⟨g, 0, none⟩) := by simpa using hp
  obtain ⟨d, hu, hd⟩ := (Option.any_eq_true _ _).1 hud
  simp [results, h, hp', asAddr, run_loadVar_row w g t ty cs fr d hg hu (by cases d <;> first | rfl | exact hd) hi]
/-- The cells of a text's bytes. -/
structure M6 (w : World) (g : Nat) (a b c d e f : UInt8) : Prop where
  c0 : w.cell? ⟨g, 0, none⟩ = some (.int .u8 a.toNat)
  c1 : w.cell? ⟨g, 1, none⟩ = some (.int .u8 b.toNat)
  c2 : w.cell? ⟨g, 2, none⟩ = some (.int .u8 c.toNat)
  c3 : w.cell? ⟨g, 3, none⟩ = some (.int .u8 d.toNat)
  c4 : w.cell? ⟨g, 4, none⟩ = some (.int .u8 e.toNat)
  c5 : w.cell? ⟨g, 5, none⟩ = some (.int .u8 f.toNat)
theorem M6.new (w : World) (a b c d e f : UInt8) : M6 (cvW [a, b, c, d, e, f] w) w.heap.size a b c d e f :=
  ⟨cvW_new _ w 0 a rfl, cvW_new _ w 1 b rfl, cvW_new _ w 2 c rfl, cvW_new _ w 3 d rfl, cvW_new _ w 4 e rfl, cvW_new _ w 5 f rfl⟩
theorem M6.keep {w w' : World} {g : Nat} {a b c d e f : UInt8} (h : M6 w g a b c d e f) (hb : w'.heap[g]? = w.heap[g]?) : M6 w' g a b c d e f :=
  ⟨(World.cell?_of_block hb).trans h.c0, (World.cell?_of_block hb).trans h.c1, (World.cell?_of_block hb).trans h.c2, (World.cell?_of_block hb).trans h.c3, (World.cell?_of_block hb).trans h.c4, (World.cell?_of_block hb).trans h.c5⟩
set_option maxHeartbeats 4000000 in
theorem ends_calls (net : Nat) (hn : net = 0 ∨ net = 1) (p : Nat) (r : List UInt8) (w : World) (h : RdL w p (macLB ++ (macSB net ++ r))) :
    Calls Tryz.prog 148 #[.pointer (some ⟨p, 0, none⟩)] w fun e w' => e = .returned (.tuple #[.int .i64 10, .agg #[.int .i64 0, .int .i64 net], .int .i64 0]) ∧ RdL w' p r ∧ Upon (· = p) w w' := by
  obtain ⟨z, hzz⟩ : ∃ z : UInt8, z = (if net = 0 then 0x20 else 0x40) := ⟨_, rfl⟩
  have HZZ : Aside (macSB net = [2, 0, 0, 0, 0, z]) := ⟨by rw [hzz]; rfl⟩
  have HNI : Aside ((net : Int) = 0 ∨ (net : Int) = 1) := ⟨by omega⟩
  have HMS : Aside (macS (net : Int) = #[.int .u8 2, .int .u8 0, .int .u8 0, .int .u8 0, .int .u8 0, .int .u8 z.toNat]) := ⟨by
    rw [hzz]; unfold macS
    rcases hn with rfl | rfl <;> rfl⟩
  rw [HZZ.out] at h
  have hp := h.lt
  have H : Aside (ED w (w.alloc (.cells #[.int .i64 0, .int .i64 0] 295)) p (macLB ++ ([2, 0, 0, 0, 0, z] ++ r))) := ⟨(ED.mk h (Upon.refl _ _) hp).grow ((Below.refl _ _).alloc (Nat.le_refl _) _)⟩
  have HO : Aside (Blk (w.alloc (.cells #[.int .i64 0, .int .i64 0] 295)) w.heap.size 295 #[.int .i64 0, .int .i64 0]) := ⟨Blk.new _ _ _⟩
  clear h hzz hn
  have r1 : ∀ W : World, (convert 9 45 (strOf macLB)).run Tryz.prog W = .ok (.slice (some ⟨W.heap.size, 0, none⟩) 6 (grownCap W 6 0 5)) (cvW macLB W) := fun W => cvW_run macLB W
  have r2 : ∀ W : World, (convert 9 45 (strOf [2, 0, 0, 0, 0, z])).run Tryz.prog W = .ok (.slice (some ⟨W.heap.size, 0, none⟩) 6 (grownCap W 6 0 5)) (cvW [2, 0, 0, 0, 0, z] W) := fun W => cvW_run [2, 0, 0, 0, 0, z] W
  have r3 : ∀ (A : Addr) (c : Nat) (W : World), (Instr.arrayAt 290 (.slice (some A) 6 c)).run Tryz.prog W = .ok (.pointer (some A)) W := array_at under290
  go_enter Tryz.func148, Tryz.ntmps148
  go_wp2_with (fail)
  refine (textL H.out.rd rfl).mono ?_
  rintro e w1 ⟨rfl, h1, h2⟩
  replace H := Aside.mk (H.out.move h1 h2)
  replace HO := Aside.mk (h2.blk HO.out (by omega))
  have HLT : Aside (w.heap.size < w1.heap.size) := ⟨HO.out.lt⟩
  have HM1 := Aside.mk (M6.new w1 3 0 0 0 0 10)
  have HE := Aside.mk (H.out.grow (cvW_below macLB w1))
  replace HO := Aside.mk (HO.out.below (cvW_below macLB w1))
  have hz1 := cvW_size macLB w1
  clear h1 h2
  go_wp2_with (fail)
  refine (textL HE.out.rd rfl).mono ?_
  rintro e w2 ⟨rfl, h1, h2⟩
  replace HE := Aside.mk (HE.out.move h1 h2)
  replace HO := Aside.mk (h2.blk HO.out (by omega))
  replace HM1 := Aside.mk (M6.keep HM1.out (h2.block w1.heap.size (by rw [cvW_size]; omega) (by have := HLT.out; omega)))
  have hg12 : w1.heap.size < w2.heap.size := World.block_lt_of_cell? w2 _ HM1.out.c0
  have HG12 := Aside.mk hg12
  replace HM1 := Aside.mk (M6.keep HM1.out ((cvW_below [2, 0, 0, 0, 0, z] w2).block _ hg12))
  have HM2 := Aside.mk (M6.new w2 2 0 0 0 0 z)
  replace HE := Aside.mk (HE.out.grow (cvW_below [2, 0, 0, 0, 0, z] w2))
  replace HO := Aside.mk (HO.out.below (cvW_below [2, 0, 0, 0, 0, z] w2))
  have HZ2 := Aside.mk (cvW_size [2, 0, 0, 0, 0, z] w2)
  obtain ⟨a0, a1, a2, a3, a4, a5⟩ := HM1.out
  clear h1 h2 hz1 hg12 H
  go_wp2_with (go_at_call 169; refine (err_calls _ _ _ HE.out.rd.1).mono ?_; rintro e w3 ⟨rfl, rfl⟩)
  refine (vl_calls _).mono ?_
  rintro e w3 ⟨rfl, h3⟩
  replace HE := Aside.mk (HE.out.grow h3)
  replace HO := Aside.mk (HO.out.below h3)
  replace HM2 := Aside.mk (M6.keep HM2.out (h3.block _ (by rw [HZ2.out]; omega)))
  clear a0 a1 a2 a3 a4 a5 h3 HM1
  obtain ⟨a0, a1, a2, a3, a4, a5⟩ := HM2.out
  have HOF : Aside (∀ W : World, Calls Tryz.prog 202 #[.agg #[.int .u8 2, .int .u8 0, .int .u8 0, .int .u8 0, .int .u8 0, .int .u8 z.toNat]] W fun e w' => e = .returned (.tuple #[.agg #[.int .i64 0, .int .i64 net], .int .i64 0]) ∧ Below W.heap.size W w') := ⟨fun W => by
    have := of_calls net HNI.out W
    rw [HMS.out] at this
    exact this⟩
  go_wp2_with (fail)
  refine (HOF.out _).mono ?_
  rintro e w4 ⟨rfl, h4⟩
  replace HE := Aside.mk (HE.out.grow h4)
  replace HO := Aside.mk (HO.out.below h4)
  clear a0 a1 a2 a3 a4 a5 h4 HM2
  go_wp2_with (fail)
  have hk := Blk.new w4 295 #[.int .i64 0, .int .i64 net]
  replace HO := Aside.mk (HO.out.alloc (.cells #[.int .i64 0, .int .i64 net] 295))
  replace HE := Aside.mk (HE.out.grow ((Below.refl _ _).alloc (Nat.le_refl _) (.cells #[.int .i64 0, .int .i64 net] 295)))
  obtain ⟨g, hg⟩ : ∃ g, g = w4.heap.size := ⟨_, rfl⟩
  rw [← hg] at hk ⊢
  generalize w4.alloc (.cells #[.int .i64 0, .int .i64 net] 295) = V at *
  obtain ⟨o, ho⟩ : ∃ o, o = w.heap.size := ⟨_, rfl⟩
  rw [← ho] at HO ⊢
  have HOE := Aside.mk ho
  have k0 : V.cell? ⟨g, 0, none⟩ = some (.int .i64 0) := hk.cell 0
  have k1 : V.cell? ⟨g, 1, none⟩ = some (.int .i64 net) := hk.cell 1
  have o0 : V.cell? ⟨o, 0, none⟩ = some (.int .i64 0) := HO.out.cell 0
  have o1 : V.cell? ⟨o, 1, none⟩ = some (.int .i64 0) := HO.out.cell 1
  have f0 := HO.out.frozen 0
  have f1 := HO.out.frozen 1
  have hout := (HO.out.set 0 (.int .i64 0)).set 1 (.int .i64 net)
  have hup : Upon (· = p) w ((V.setCell ⟨o, 0, none⟩ (.int .i64 0)).setCell ⟨o, 1, none⟩ (.int .i64 net)) := (HE.out.upon.set ⟨o, 0, none⟩ _ (.inr (Nat.le_of_eq ho.symm))).set ⟨o, 1, none⟩ _ (.inr (Nat.le_of_eq ho.symm))
  have hrd : RdL ((V.setCell ⟨o, 0, none⟩ (.int .i64 0)).setCell ⟨o, 1, none⟩ (.int .i64 net)) p r := (HE.out.rd.keep (Below.heap_setCell V ⟨o, 0, none⟩ _ p (by simp; omega))).keep (Below.heap_setCell _ ⟨o, 1, none⟩ _ p (by simp; omega))
  have HOUT := Aside.mk hout
  have HUP := Aside.mk hup
  have HRD := Aside.mk hrd
  clear hk hout hup hrd ho hg HO HE r1 r2 r3 HLT HG12 HZ2 HOF HMS HNI HZZ
  go_region
  all_goals
    go_wp2
    refine bodyPost_ret (v := .tuple #[.int .i64 10, .agg #[.int .i64 0, .int .i64 net], .int .i64 0]) ?_ rfl ⟨rfl, HRD.out, HUP.out.drew⟩
    rw [results_mid rfl _ _ o 295 #[.int .i64 0, .int .i64 net] (0, 0) rfl HOUT.out.drew (by kernel_rfl) (by kernel_rfl)]
    rfl
def frZero : Array Value := #[.int .i64 0, .int .i64 0, .int .i64 0, .int .i64 0, .string ⟨#[]⟩]
set_option maxHeartbeats 4000000 in
theorem edec_bad (s : ByteArray) (w : World) (h1 : 64 ≤ s.size) (h2 : s.size ≤ 1518) (hne : sealB (s.data.toList.take (s.size - 4)) ≠ s.data.toList) : Calls Tryz.prog 110 #[.string s] w fun e w' => e = .returned (.tuple #[.agg frZero, .int .i64 12]) ∧ Below w.heap.size w w' := by
  have HB : Aside (∀ W : World, Calls Tryz.prog 146 #[.string s] W fun e w' => e = .returned (.tuple #[strOf [], .int .i64 12]) ∧ Below W.heap.size W w') := ⟨fun W => open_bad s W (by omega) (by omega) hne⟩
  have HO := Aside.mk (Blk.new w 117 frZero)
  have HW := Aside.mk ((Below.refl w.heap.size w).alloc (Nat.le_refl _) (.cells frZero 117))
  obtain ⟨n, hn⟩ : ∃ n, n = s.size := ⟨_, rfl⟩
  have hz : s.size = n := hn.symm
  have h1' : 64 ≤ n := by omega
  have h2' : n ≤ 1518 := by omega
  clear hne h1 h2 hn
  go_enter Tryz.func110, Tryz.ntmps110
  obtain ⟨o, ho⟩ : ∃ o, o = w.heap.size := ⟨_, rfl⟩
  have HOE := Aside.mk ho
  go_wp2_with (fail)
  change Calls _ _ _ (w.alloc (.cells frZero 117)) _
  rw [← ho] at HO ⊢
  generalize w.alloc (.cells frZero 117) = W at *
  refine (HB.out _).mono ?_
  rintro e w1 ⟨rfl, h3⟩
  replace HW := Aside.mk (below_then HW.out HW.out.size h3)
  replace HO := Aside.mk (HO.out.below h3)
  obtain ⟨c0, c1, c2, c3, c4⟩ : w1.cell? ⟨o, 0, none⟩ = some (.int .i64 0) ∧ w1.cell? ⟨o, 1, none⟩ = some (.int .i64 0) ∧ w1.cell? ⟨o, 2, none⟩ = some (.int .i64 0) ∧ w1.cell? ⟨o, 3, none⟩ = some (.int .i64 0) ∧ w1.cell? ⟨o, 4, none⟩ = some (.string ⟨#[]⟩) := ⟨HO.out.cell 0, HO.out.cell 1, HO.out.cell 2, HO.out.cell 3, HO.out.cell 4⟩
  have hfz : ∀ i, w1.frozen? ⟨o, i, none⟩ = false := fun i => HO.out.frozen i
  clear h3 ho
  go_wp2
  have hout := ((((HO.out.set 0 (.int .i64 0)).set 1 (.int .i64 0)).set 2 (.int .i64 0)).set 3 (.int .i64 0)).set 4 (.string ⟨#[]⟩)
  have hbel := (((((Upon.of_below (S := (· = w.heap.size)) HW.out).set ⟨o, 0, none⟩ (.int .i64 0) (.inl HOE.out)).set ⟨o, 1, none⟩ (.int .i64 0) (.inl HOE.out)).set ⟨o, 2, none⟩ (.int .i64 0) (.inl HOE.out)).set ⟨o, 3, none⟩ (.int .i64 0) (.inl HOE.out)).set ⟨o, 4, none⟩ (.string ⟨#[]⟩) (.inl HOE.out) |>.below (Nat.le_refl _) (fun i hi => by omega)
  refine bodyPost_ret (v := .tuple #[.agg frZero, .int .i64 12]) ?_ rfl ⟨rfl, hbel⟩
  rw [results_cell1 rfl _ _ o 117 frZero (0, 0) rfl hout (by kernel_rfl) (by kernel_rfl)]
  rfl
end Go.Proofs.YtdgjcjhicbgfaaaGreat
