/- copied: what a frame is whose number is remembered. Conditions: the frames lie; the network is 0 or 1. -/
import Derived.Test.YtdgjcjhicbgfaaaGreatDd
set_option linter.unusedVariables false
set_option linter.unusedSimpArgs false
namespace Go.Proofs.YtdgjcjhicbgfaaaGreat
open Go.RowKit Go.Shelf
attribute [local go_sem] Oper.semAt_some
set_option linter.unusedVariables false

theorem Stays.blk {B : Nat} {g : Nat} {t : TypeId} {cs : Array Value} : Stays B (fun W => Blk W g t cs) := fun W W' h _ _ _ _ hk => hk g _ h (.inr rfl)
theorem Stays.below {B n : Nat} {w : World} (h1 : n ≤ B) (h2 : n ≤ w.heap.size) : Stays B (fun W => Below n w W) := fun W W' h h3 h4 h5 h6 hk =>
  ⟨h3.trans h.os, h4.trans h.tape, h5.trans h.output, Nat.le_trans h.size h6, fun k hkn => by
    rw [← h.block k hkn]
    have hlt : k < W.heap.size := by have := h.size; omega
    rw [Array.getElem?_eq_getElem hlt]
    exact hk k _ (Array.getElem?_eq_getElem hlt) (.inl (by omega))⟩
/-- The frames that a filter remembers, where they lie. -/
structure FAt (w : World) (g go b off : Nat) (l : List (Fq Value)) : Prop where
  slice : ∃ A c, w.cell? ⟨g, go, none⟩ = some (.slice A l.length c) ∧ (0 < l.length → A = some ⟨b, off, none⟩)
  reads : ∀ (i : Nat) (f : Fq Value), l[i]? = some f → w.cell? ⟨b, off + i * 3, none⟩ = some (.int .i64 f.seq) ∧ w.cell? ⟨b, off + i * 3 + 2, none⟩ = some (.int .u64 f.nets)
  melt : ∀ i, i < l.length → w.frozen? ⟨b, off + i * 3 + 2, none⟩ = false
  ok : ∀ f ∈ l, netsOk f.nets = true
theorem netsOk_cases {n : Int} (h : netsOk n = true) : n = 1 ∨ n = 2 ∨ n = 3 := by
  unfold netsOk at h
  split at h
  · exact .inl (by assumption)
  · split at h
    · exact .inr (.inl (by assumption))
    · split at h
      · exact .inr (.inr (by assumption))
      · cases h
theorem FAt.lt {w : World} {g go b off : Nat} {l : List (Fq Value)} (h : FAt w g go b off l) (hl : 0 < l.length) : b < w.heap.size :=
  World.block_lt_of_cell? w _ (h.reads 0 _ (List.getElem?_eq_getElem hl)).1
theorem frozen_of_block {w w' : World} {b o : Nat} (h : w'.heap[b]? = w.heap[b]?) : w'.frozen? ⟨b, o, none⟩ = w.frozen? ⟨b, o, none⟩ := by
  unfold World.frozen?
  simp only [h]
theorem drop_at {α : Type} {l : List α} {i : Nat} {f : α} (h : l[i]? = some f) : l.drop i = f :: l.drop (i + 1) := by
  obtain ⟨h1, h2⟩ := List.getElem?_eq_some_iff.1 h
  rw [List.drop_eq_getElem_cons h1, h2]
/-- The boxes of copied; what has been seen. -/
structure CI (w : World) (l : List (Fq Value)) (net seq : Int) (i : Nat) (W : World) : Prop where
  below : Below w.heap.size w W
  b0 : Blk W w.heap.size 3 #[.int .i64 net]
  b1 : Blk W (w.heap.size + 1) 3 #[.int .i64 seq]
  b2 : Blk W (w.heap.size + 1 + 1) 34 #[.int .i64 0]
  b3 : ∃ e : Int, Blk W (w.heap.size + 1 + 1 + 1) 34 #[.int .i64 e] ∧ copyGo net seq l 0 0 = copyGo net seq (l.drop i) i e
theorem CI.stays {w : World} {l : List (Fq Value)} {net seq : Int} {i B : Nat} (hB : w.heap.size ≤ B) : Stays B (CI w l net seq i) := fun W W' h h1 h2 h3 h4 hk =>
  ⟨Stays.below hB (Nat.le_refl _) W W' h.below h1 h2 h3 h4 hk, Stays.blk (B := B) W W' h.b0 h1 h2 h3 h4 hk, Stays.blk (B := B) W W' h.b1 h1 h2 h3 h4 hk, Stays.blk (B := B) W W' h.b2 h1 h2 h3 h4 hk,
    by obtain ⟨e, hb, he⟩ := h.b3; exact ⟨e, Stays.blk (B := B) W W' hb h1 h2 h3 h4 hk, he⟩⟩
theorem CI.drew {w W : World} {l : List (Fq Value)} {net seq : Int} {i : Nat} (h : CI w l net seq i W) : CI w l net seq i W.drew := ⟨h.below.drew, h.b0, h.b1, h.b2, h.b3⟩
theorem CI.skip {w W : World} {l : List (Fq Value)} {net seq : Int} {i : Nat} {f : Fq Value} (h : CI w l net seq i W) (hf : l[i]? = some f) (hs : f.seq ≠ seq) : CI w l net seq (i + 1) W := by
  refine ⟨h.below, h.b0, h.b1, h.b2, ?_⟩
  obtain ⟨e, hb, he⟩ := h.b3
  refine ⟨e, hb, ?_⟩
  rw [he, drop_at hf, copyGo, if_neg hs]
theorem CI.hitOne {w W : World} {l : List (Fq Value)} {net seq : Int} {i : Nat} {f : Fq Value} (h : CI w l net seq i W) (hf : l[i]? = some f) (hs : f.seq = seq) (hh : hitF f.nets net = true) : CI w l net seq (i + 1) (W.setCell ⟨w.heap.size + 1 + 1 + 1, 0, none⟩ (.int .i64 25)) := by
  obtain ⟨e, hb, he⟩ := h.b3
  refine ⟨h.below.setCell (p := ⟨w.heap.size + 1 + 1 + 1, 0, none⟩) (by show w.heap.size ≤ w.heap.size + 1 + 1 + 1; omega) _, h.b0.far (by show w.heap.size ≠ w.heap.size + 1 + 1 + 1; omega) _, h.b1.far (by show w.heap.size + 1 ≠ w.heap.size + 1 + 1 + 1; omega) _, h.b2.far (by show w.heap.size + 1 + 1 ≠ w.heap.size + 1 + 1 + 1; omega) _, ?_⟩
  refine ⟨25, hb.set 0 _, ?_⟩
  rw [he, drop_at hf, copyGo, if_pos hs, hh]
theorem CI.start (w : World) (l : List (Fq Value)) (net seq : Int) : CI w l net seq 0 ((((w.alloc (Obj.cells #[Value.int IntKind.i64 net] 3)).alloc (Obj.cells #[Value.int IntKind.i64 seq] 3)).alloc (Obj.cells #[Value.int IntKind.i64 0] 34)).alloc (Obj.cells #[Value.int IntKind.i64 0] 34)) := by
  have e1 : (w.alloc (Obj.cells #[Value.int IntKind.i64 net] 3)).heap.size = w.heap.size + 1 := by simp
  have e2 : ((w.alloc (Obj.cells #[Value.int IntKind.i64 net] 3)).alloc (Obj.cells #[Value.int IntKind.i64 seq] 3)).heap.size = w.heap.size + 1 + 1 := by simp
  have e3 : (((w.alloc (Obj.cells #[Value.int IntKind.i64 net] 3)).alloc (Obj.cells #[Value.int IntKind.i64 seq] 3)).alloc (Obj.cells #[Value.int IntKind.i64 0] 34)).heap.size = w.heap.size + 1 + 1 + 1 := by simp
  have b0 := Blk.new w 3 #[.int .i64 net]
  have b1 := Blk.new (w.alloc (Obj.cells #[Value.int IntKind.i64 net] 3)) 3 #[.int .i64 seq]
  have b2 := Blk.new ((w.alloc (Obj.cells #[Value.int IntKind.i64 net] 3)).alloc (Obj.cells #[Value.int IntKind.i64 seq] 3)) 34 #[.int .i64 0]
  have b3 := Blk.new (((w.alloc (Obj.cells #[Value.int IntKind.i64 net] 3)).alloc (Obj.cells #[Value.int IntKind.i64 seq] 3)).alloc (Obj.cells #[Value.int IntKind.i64 0] 34)) 34 #[.int .i64 0]
  rw [e1] at b1
  rw [e2] at b2
  rw [e3] at b3
  exact ⟨((((Below.refl _ _).alloc (Nat.le_refl _) _).alloc (by rw [e1]; omega) _).alloc (by rw [e2]; omega) _).alloc (by rw [e3]; omega) _, ((b0.alloc _).alloc _).alloc _, (b1.alloc _).alloc _, b2.alloc _, ⟨0, b3, rfl⟩⟩
/-- Frame k is on both networks now. -/
def Marked (w : World) (b off k : Nat) (W : World) : Prop := Below w.heap.size (w.setCell ⟨b, off + k * 3 + 2, none⟩ (.int .u64 3)) W
def CX (w : World) (b off : Nat) (l : List (Fq Value)) (net seq : Int) (W : World) : Prop :=
  (∃ k, k < l.length ∧ copyGo net seq l 0 0 = (21, some k) ∧ Marked w b off k W) ∧ Blk W (w.heap.size + 1 + 1) 34 #[.int .i64 21]
theorem CX.stays {w : World} {b off : Nat} {l : List (Fq Value)} {net seq : Int} {B : Nat} (hB : w.heap.size ≤ B) : Stays B (CX w b off l net seq) := fun W W' h h1 h2 h3 h4 hk => by
  obtain ⟨⟨k, a1, a2, hp⟩, hb⟩ := h
  exact ⟨⟨k, a1, a2, Stays.below (w := w.setCell ⟨b, off + k * 3 + 2, none⟩ (.int .u64 3)) hB (by simp [World.setCell]) W W' hp h1 h2 h3 h4 hk⟩, Stays.blk (B := B) W W' hb h1 h2 h3 h4 hk⟩
theorem below_set {n : Nat} {w W : World} (h : Below n w W) (p : Addr) (v : Value) : Below n (w.setCell p v) (W.setCell p v) := by
  refine ⟨h.os, h.tape, h.output, by have := h.size; simpa [World.setCell] using this, fun k hk => ?_⟩
  have hb := h.block k hk
  by_cases e : k = p.block
  · subst e
    simp only [World.setCell, Array.getElem?_modify, hb]
  · rw [Below.heap_setCell _ _ _ _ e, Below.heap_setCell _ _ _ _ e, hb]
theorem CX.of {w W : World} {g go : Nat} {l : List (Fq Value)} {net seq : Int} {i b off : Nat} {f : Fq Value} (H : FAt w g go b off l) (h : CI w l net seq i W) (hf : l[i]? = some f) (hs : f.seq = seq) (hh : hitF f.nets net = false) :
    CX w b off l net seq ((W.setCell ⟨b, off + i * 3 + 2, none⟩ (.int .u64 3)).setCell ⟨w.heap.size + 1 + 1, 0, none⟩ (.int .i64 21)) := by
  have hi : i < l.length := (List.getElem?_eq_some_iff.1 hf).1
  have hblt := H.lt (by omega)
  obtain ⟨e, hb, he⟩ := h.b3
  refine ⟨⟨i, hi, ?_, ?_⟩, (h.b2.far (p := ⟨b, off + i * 3 + 2, none⟩) (by show w.heap.size + 1 + 1 ≠ b; omega) _).set 0 _⟩
  · rw [he, drop_at hf, copyGo, if_pos hs, hh]
  · exact (below_set h.below ⟨b, off + i * 3 + 2, none⟩ (.int .u64 3)).setCell (p := ⟨w.heap.size + 1 + 1, 0, none⟩) (by show w.heap.size ≤ w.heap.size + 1 + 1; omega) _
theorem CX.drew {w W : World} {b off : Nat} {l : List (Fq Value)} {net seq : Int} (h : CX w b off l net seq W) : CX w b off l net seq W.drew := by
  obtain ⟨⟨k, a1, a2, hp⟩, hb⟩ := h
  exact ⟨⟨k, a1, a2, Below.drew hp⟩, hb⟩
/-- A region whose every order ends alike is walked on once. -/
theorem region_once {F : Fence} {n : Nat} {P : Program} {c : Code} {Q : Exit → Act → World → Prop} {a : Act} {w : World} {X : Act} (h1 : c.wpIn F n P (fun e a' w' => e = .normal ∧ a' = X ∧ w' = w.drew) a w) (h2 : Q .normal X w.drew) : c.wpIn F n P Q a w :=
  wpIn_mono h1 fun e a' w' ⟨he, ha, hw⟩ => by subst he; subst ha; subst hw; exact h2
/-- What copied answers and leaves. -/
def CopPost (w : World) (b off : Nat) (l : List (Fq Value)) (net seq : Int) (e : Ending) (w' : World) : Prop :=
  (∃ k, k < l.length ∧ copyGo net seq l 0 0 = (21, some k) ∧ e = .returned (.int .i64 21) ∧ Marked w b off k w') ∨
  (∃ c : Int, copyGo net seq l 0 0 = (c, none) ∧ e = .returned (.int .i64 c) ∧ Below w.heap.size w w')
set_option maxRecDepth 100000 in
set_option maxHeartbeats 4000000 in
theorem copied_in (F : Fence) (n : Nat) (h161 : F.fn 161) (h204 : F.fn 204) (hro : F.round = none) (hn : 4 ≤ n) (g go b off : Nat) (l : List (Fq Value)) (net seq : Int) (w : World) (H : FAt w g go b off l) (hnet : net = 0 ∨ net = 1) (hsz : l.length ≤ 5000) :
    CallsIn F n Tryz.prog 161 #[.pointer (some ⟨g, go, none⟩), .int .i64 net, .int .i64 seq] w fun e w' => CopPost w b off l net seq e w' := by
  have h1 : 1 ≤ n := by omega
  have HH := Aside.mk H
  obtain ⟨A, c, hsl, hA⟩ := H.slice
  have HFZ : Aside (∀ W : World, Below w.heap.size w W → ∀ i, i < l.length → W.frozen? ⟨b, off + i * 3 + 2, none⟩ = false) := ⟨fun W hB i hi => by
    rw [frozen_of_block (hB.block b (H.lt (by omega)))]
    exact H.melt i hi⟩
  have HBL : Aside (0 < l.length → b < w.heap.size) := ⟨H.lt⟩
  have HA := Aside.mk hA
  have HRE := Aside.mk H.reads
  have HSL := Aside.mk hsl
  have HWL := Aside.mk H.ok
  clear H hA hsl
  refine callsIn_of_wp_marks Tryz.func161 rfl h161 ?_ hro
  simp only [Tryz.ntmps161, List.size_toArray, List.length_cons, List.length_nil, Nat.reduceAdd, Nat.reduceSub, Array.replicate_succ, Array.replicate_zero, List.push_toArray, List.append_toArray, List.nil_append, List.cons_append]
  gi_wp2
  have HI0 : Aside (CI w l net seq 0 ((((w.alloc (Obj.cells #[Value.int IntKind.i64 net] 3)).alloc (Obj.cells #[Value.int IntKind.i64 seq] 3)).alloc (Obj.cells #[Value.int IntKind.i64 0] 34)).alloc (Obj.cells #[Value.int IntKind.i64 0] 34))) := ⟨CI.start w l net seq⟩
  generalize hW4 : World.alloc _ _ = W4 at HI0
  try rw [hW4]
  have hB : w.heap.size ≤ W4.heap.size := HI0.out.below.size
  refine wpIn_rangeBound hro h1 (gf := 204) (fb := #[.pointer (some ⟨g, go, none⟩)]) (N := l.length) (enc := fun i => .pointer (some ⟨b, off + i * 3, none⟩)) (Rd := EachRd g go b off l.length) rfl h204 (enters_of Tryz.func204 (by kernel_rfl) rfl)
    (each_gives F (n - 1) h204 hro (by omega) g go b off _ hsz) (fun i => CI w l net seq i) (CX w b off l net seq) (fun i => CI.stays hB) (CX.stays hB) (fun i W h => ⟨A, c, below_cell h.below HSL.out, HA.out⟩) HI0.out
    (fun i => { tmps := #[Value.pointer (some { block := g, off := go }), Value.int IntKind.i64 net, Value.int IntKind.i64 seq, undef,
          Value.pointer (some { block := w.heap.size, off := 0 }), Value.pointer (some { block := w.heap.size + 1, off := 0 }),
          Value.pointer (some { block := w.heap.size + 1 + 1, off := 0 }), Value.pointer (some { block := w.heap.size + 1 + 1 + 1, off := 0 }), .pointer (some ⟨b, off + i * 3, none⟩),
          Value.pointer (some { block := g, off := go }), Value.func (Fn.func 204) #[Value.pointer (some { block := g, off := go })] #[], .pointer (some ⟨b, off + i * 3, none⟩), undef, undef, undef,
          undef, undef, undef, undef, undef, undef, undef, undef, undef, undef, undef, undef, undef, undef, undef, undef, undef, undef], defers := [] }) ?assign ?body ?done ?stop
  case assign =>
    intro l i W K hK
    gi_wp2
    exact hK
  case body =>
    intro lx i W hi hI
    have hmx : Tryz.prog.follows .mixedOrders = true := by kernel_rfl
    have HI := Aside.mk hI
    have hf := List.getElem?_eq_getElem hi
    have x0 : W.cell? ⟨b, off + i * 3, none⟩ = some (.int .i64 (l[i]).seq) := below_cell hI.below (HRE.out i _ hf).1
    have x2 : W.cell? ⟨b, off + i * 3 + 2, none⟩ = some (.int .u64 (l[i]).nets) := below_cell hI.below (HRE.out i _ hf).2
    have HWF := Aside.mk (netsOk_cases (HWL.out _ (List.getElem_mem hi)))
    have y0 : W.cell? ⟨w.heap.size, 0, none⟩ = some (.int .i64 net) := hI.b0.cell 0
    have y1 : W.cell? ⟨w.heap.size + 1, 0, none⟩ = some (.int .i64 seq) := hI.b1.cell 0
    have y2 : W.cell? ⟨w.heap.size + 1 + 1, 0, none⟩ = some (.int .i64 0) := hI.b2.cell 0
    have z2 := hI.b2.frozen 0
    obtain ⟨e, hb3, he⟩ := hI.b3
    have y3 : W.cell? ⟨w.heap.size + 1 + 1 + 1, 0, none⟩ = some (.int .i64 e) := hb3.cell 0
    have z3 := hb3.frozen 0
    have HB3 := Aside.mk hb3
    have HFI := Aside.mk hf
    clear hI hf hb3 he
    generalize l[i] = f at *
    by_cases hs : f.seq = seq
    · rw [hs] at x0
      have hcase : (hitF f.nets net = true ∧ ((f.nets = 1 ∧ net = 0) ∨ (f.nets = 2 ∧ net = 1) ∨ (f.nets = 3 ∧ net = 0) ∨ (f.nets = 3 ∧ net = 1))) ∨ (hitF f.nets net = false ∧ ((f.nets = 1 ∧ net = 1) ∨ (f.nets = 2 ∧ net = 0))) := by
        rcases HWF.out with h | h | h <;> rcases hnet with h' | h' <;> simp [hitF, h, h']
      rcases hcase with ⟨hh, hc⟩ | ⟨hh, hc⟩
      · have HN : Aside (CI w l net seq (i + 1) (W.setCell ⟨w.heap.size + 1 + 1 + 1, 0, none⟩ (.int .i64 25))) := ⟨HI.out.hitOne HFI.out hs hh⟩
        have hb4 : W4.heap.size ≤ W4.heap.size := Nat.le_refl _
        rcases hc with ⟨h1', h2'⟩ | ⟨h1', h2'⟩ | ⟨h1', h2'⟩ | ⟨h1', h2'⟩
        all_goals
          subst h2'
          rw [h1'] at x2
          gi_wp2
          apply region_once
          case h1 =>
            gi_region_with_o (fail)
            all_goals exact ⟨rfl, rfl, rfl⟩
          gi_wp2
          apply region_once
          case h1 =>
            gi_region_with_o (fail)
            all_goals exact ⟨rfl, rfl, rfl⟩
          gi_wp2
          exact ⟨((KeepsOthers.setCell W ⟨w.heap.size + 1 + 1 + 1, 0, none⟩ (.int .i64 25)).trans ((KeepsOthers.drew _).trans (KeepsOthers.drew _))).from _, HN.out.drew.drew⟩
      · have HN : Aside (CX w b off l net seq ((W.setCell ⟨b, off + i * 3 + 2, none⟩ (.int .u64 3)).setCell ⟨w.heap.size + 1 + 1, 0, none⟩ (.int .i64 21))) := ⟨CX.of HH.out HI.out HFI.out hs hh⟩
        have zf : W.frozen? ⟨b, off + i * 3 + 2, none⟩ = false := HFZ.out W HI.out.below i hi
        have hbn : b ≠ w.heap.size + 1 + 1 := by have := HBL.out (by omega); omega
        rcases hc with ⟨h1', h2'⟩ | ⟨h1', h2'⟩
        all_goals
          subst h2'
          rw [h1'] at x2
          gi_wp2
          apply region_once
          case h1 =>
            gi_region_with_o (fail)
            all_goals exact ⟨rfl, rfl, rfl⟩
          gi_wp2
          apply region_once
          case h1 =>
            gi_region_with_o (fail)
            all_goals exact ⟨rfl, rfl, rfl⟩
          gi_wp2
          exact ⟨(((KeepsOthers.setCell W ⟨b, off + i * 3 + 2, none⟩ (.int .u64 3)).trans (KeepsOthers.setCell _ ⟨w.heap.size + 1 + 1, 0, none⟩ (.int .i64 21))).trans ((KeepsOthers.drew _).trans (KeepsOthers.drew _))).from _, HN.out.drew.drew⟩
    · have HN : Aside (CI w l net seq (i + 1) W) := ⟨HI.out.skip HFI.out hs⟩
      gi_wp2
      apply region_once
      case h1 =>
        gi_region_with_o (fail)
        all_goals exact ⟨rfl, rfl, rfl⟩
      gi_wp2
      exact ⟨(KeepsOthers.drew _).from _, HN.out.drew⟩
  case done =>
    intro D W hD hI hK
    have HI := Aside.mk hI
    have y2 : W.cell? ⟨w.heap.size + 1 + 1, 0, none⟩ = some (.int .i64 0) := hI.b2.cell 0
    have z2 := hI.b2.frozen 0
    obtain ⟨e, hb3, he⟩ := hI.b3
    have y3 : W.cell? ⟨w.heap.size + 1 + 1 + 1, 0, none⟩ = some (.int .i64 e) := hb3.cell 0
    have HE := Aside.mk he
    clear hI he hb3
    gi_wp2
    have hK' := (KeepsOthers.setCell W ⟨w.heap.size + 1 + 1, 0, none⟩ (.int .i64 e)).same D _ hK rfl
    refine ⟨by simp, .inl ⟨_, _, rfl, run_takeDeferred hK', ?_⟩⟩
    have hc5 := cell_kept (World.cell?_setCell_same' W ⟨w.heap.size + 1 + 1, 0, none⟩ (.int .i64 e) (by rw [y2]; rfl)) (grownBy_putObj' _ D (.deferred none)) (fun r e => by cases e; exact ⟨_, hK', rfl⟩)
    refine ⟨.int .i64 e, by simp [results, Tryz.f161, go_sem, hc5], ?_⟩
    have hbel : Below w.heap.size w ((W.setCell ⟨w.heap.size + 1 + 1, 0, none⟩ (.int .i64 e)).putObj D (.deferred none)) :=
      (HI.out.below.setCell (p := ⟨w.heap.size + 1 + 1, 0, none⟩) (by show w.heap.size ≤ w.heap.size + 1 + 1; omega) _).trans (belowK_b (w := w) (Nat.le_refl _) _ D _ _ (by omega) hK' rfl rfl)
    have hE := HE.out
    rw [List.drop_length] at hE
    exact .inr ⟨e, hE, rfl, hbel⟩
  case stop =>
    intro D W hD hX hK
    have y2 : W.cell? ⟨w.heap.size + 1 + 1, 0, none⟩ = some (.int .i64 21) := hX.2.cell 0
    have HX := Aside.mk hX
    clear hX
    gi_wp2
    refine ⟨by simp, .inl ⟨_, _, rfl, run_takeDeferred hK, ?_⟩⟩
    have hc5 := cell_kept y2 (grownBy_putObj' _ D (.deferred none)) (fun r e => by cases e; exact ⟨_, hK, rfl⟩)
    refine ⟨.int .i64 21, by simp [results, Tryz.f161, go_sem, hc5], ?_⟩
    obtain ⟨⟨k, a1, a2, hp⟩, _⟩ := HX.out
    exact .inl ⟨k, a1, a2, rfl, (Stays.below (B := w.heap.size) (w := w.setCell ⟨b, off + k * 3 + 2, none⟩ (.int .u64 3)) (Nat.le_refl _) (by simp [World.setCell])).putObj _ hp (by omega) hK rfl⟩
theorem copied_calls (g go b off : Nat) (l : List (Fq Value)) (net seq : Int) (w : World) (H : FAt w g go b off l) (hnet : net = 0 ∨ net = 1) (hsz : l.length ≤ 5000) :
    Calls Tryz.prog 161 #[.pointer (some ⟨g, go, none⟩), .int .i64 net, .int .i64 seq] w fun e w' => CopPost w b off l net seq e w' :=
  callsIn_wide.1 (copied_in Fence.wide 5 trivial trivial rfl (by omega) g go b off l net seq w H hnet hsz)
end Go.Proofs.YtdgjcjhicbgfaaaGreat
