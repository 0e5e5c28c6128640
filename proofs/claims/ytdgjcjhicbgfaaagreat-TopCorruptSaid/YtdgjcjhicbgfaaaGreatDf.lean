/- passed: whether a frame is remembered that is ahead of a number. Conditions: the frames lie. -/
import Derived.Test.YtdgjcjhicbgfaaaGreatDe
set_option linter.unusedVariables false
set_option linter.unusedSimpArgs false
namespace Go.Proofs.YtdgjcjhicbgfaaaGreat
open Go.RowKit Go.Shelf
attribute [local go_sem] Oper.semAt_some
set_option linter.unusedVariables false

theorem ahead_cases (n : Int) : (aheadF n = true ∧ 1 ≤ n ∧ n ≤ 127) ∨ (aheadF n = false ∧ ¬ 1 ≤ n) ∨ (aheadF n = false ∧ 1 ≤ n ∧ ¬ n ≤ 127) := by
  unfold aheadF
  by_cases h1 : 1 ≤ n
  · by_cases h2 : n ≤ 127
    · exact .inl ⟨by rw [if_pos h1, if_pos h2], h1, h2⟩
    · exact .inr (.inr ⟨by rw [if_pos h1, if_neg h2], h1, h2⟩)
  · exact .inr (.inl ⟨by rw [if_neg h1], h1⟩)
structure PI2 (w : World) (l : List (Fq Value)) (seq : Int) (i : Nat) (W : World) : Prop where
  below : Below w.heap.size w W
  b0 : Blk W w.heap.size 3 #[.int .i64 seq]
  b1 : Blk W (w.heap.size + 1) 4 #[.bool false]
  pas : passGo seq l = passGo seq (l.drop i)
theorem PI2.stays {w : World} {l : List (Fq Value)} {seq : Int} {i B : Nat} (hB : w.heap.size ≤ B) : Stays B (PI2 w l seq i) := fun W W' h h1 h2 h3 h4 hk =>
  ⟨Stays.below hB (Nat.le_refl _) W W' h.below h1 h2 h3 h4 hk, Stays.blk (B := B) W W' h.b0 h1 h2 h3 h4 hk, Stays.blk (B := B) W W' h.b1 h1 h2 h3 h4 hk, h.pas⟩
theorem PI2.drew {w W : World} {l : List (Fq Value)} {seq : Int} {i : Nat} (h : PI2 w l seq i W) : PI2 w l seq i W.drew := ⟨h.below.drew, h.b0, h.b1, h.pas⟩
theorem PI2.skip {w W : World} {l : List (Fq Value)} {seq : Int} {i : Nat} {f : Fq Value} (h : PI2 w l seq i W) (hf : l[i]? = some f) (hs : aheadF (step seq f.seq) = false) : PI2 w l seq (i + 1) W := by
  refine ⟨h.below, h.b0, h.b1, ?_⟩
  rw [h.pas, drop_at hf, passGo, stepI_eq, hs]
theorem PI2.start (w : World) (l : List (Fq Value)) (seq : Int) : PI2 w l seq 0 ((w.alloc (Obj.cells #[Value.int IntKind.i64 seq] 3)).alloc (Obj.cells #[Value.bool false] 4)) := by
  have e1 : (w.alloc (Obj.cells #[Value.int IntKind.i64 seq] 3)).heap.size = w.heap.size + 1 := by simp
  have b1 := Blk.new (w.alloc (Obj.cells #[Value.int IntKind.i64 seq] 3)) 4 #[.bool false]
  rw [e1] at b1
  exact ⟨((Below.refl _ _).alloc (Nat.le_refl _) _).alloc (by rw [e1]; omega) _, (Blk.new w 3 #[.int .i64 seq]).alloc _, b1, rfl⟩
def PX2 (w : World) (l : List (Fq Value)) (seq : Int) (W : World) : Prop := (Below w.heap.size w W ∧ Blk W (w.heap.size + 1) 4 #[.bool true]) ∧ passGo seq l = true
theorem PX2.stays {w : World} {l : List (Fq Value)} {seq : Int} {B : Nat} (hB : w.heap.size ≤ B) : Stays B (PX2 w l seq) := fun W W' h h1 h2 h3 h4 hk =>
  ⟨⟨Stays.below hB (Nat.le_refl _) W W' h.1.1 h1 h2 h3 h4 hk, Stays.blk (B := B) W W' h.1.2 h1 h2 h3 h4 hk⟩, h.2⟩
set_option maxRecDepth 100000 in
set_option maxHeartbeats 4000000 in
theorem passed_in (g go b off : Nat) (l : List (Fq Value)) (seq : Int) (w : World) (H : FAt w g go b off l) (hsz : l.length ≤ 5000) :
    CallsIn Fence.wide 5 Tryz.prog 162 #[.pointer (some ⟨g, go, none⟩), .int .i64 seq] w fun e w' => e = .returned (.bool (passGo seq l)) ∧ Below w.heap.size w w' := by
  have h1 : 1 ≤ 5 := by omega
  obtain ⟨A, c, hsl, hA⟩ := H.slice
  have HA := Aside.mk hA
  have HRE := Aside.mk H.reads
  have HSL := Aside.mk hsl
  clear H hA hsl
  refine callsIn_of_wp_marks Tryz.func162 rfl trivial ?_ rfl
  simp only [Tryz.ntmps162, List.size_toArray, List.length_cons, List.length_nil, Nat.reduceAdd, Nat.reduceSub, Array.replicate_succ, Array.replicate_zero, List.push_toArray, List.append_toArray, List.nil_append, List.cons_append]
  gi_wp2
  have HI0 : Aside (PI2 w l seq 0 ((w.alloc (Obj.cells #[Value.int IntKind.i64 seq] 3)).alloc (Obj.cells #[Value.bool false] 4))) := ⟨PI2.start w l seq⟩
  generalize hW4 : World.alloc _ _ = W4 at HI0
  try rw [hW4]
  have hB : w.heap.size ≤ W4.heap.size := HI0.out.below.size
  refine wpIn_rangeBound (F := Fence.wide) rfl h1 (gf := 204) (fb := #[.pointer (some ⟨g, go, none⟩)]) (N := l.length) (enc := fun i => .pointer (some ⟨b, off + i * 3, none⟩)) (Rd := EachRd g go b off l.length) rfl trivial (enters_of Tryz.func204 (by kernel_rfl) rfl)
    (each_gives Fence.wide (5 - 1) trivial rfl (by omega) g go b off _ hsz) (fun i => PI2 w l seq i) (PX2 w l seq) (fun i => PI2.stays hB) (PX2.stays hB) (fun i W h => ⟨A, c, below_cell h.below HSL.out, HA.out⟩) HI0.out
    (fun i => { tmps := #[Value.pointer (some { block := g, off := go }), Value.int IntKind.i64 seq, undef,
          Value.pointer (some { block := w.heap.size, off := 0 }), Value.pointer (some { block := w.heap.size + 1, off := 0 }), .pointer (some ⟨b, off + i * 3, none⟩), undef,
          Value.pointer (some { block := g, off := go }), Value.func (Fn.func 204) #[Value.pointer (some { block := g, off := go })] #[], .pointer (some ⟨b, off + i * 3, none⟩), undef, undef, undef,
          undef, undef, undef, undef, undef, undef, undef, undef, undef], defers := [] }) ?assign ?body ?done ?stop
  case assign =>
    intro l i W K hK
    gi_wp2
    exact hK
  case body =>
    intro lx i W hi hI
    have hmx : Tryz.prog.follows .mixedOrders = true := by kernel_rfl
    have HI := Aside.mk hI
    have hf := List.getElem?_eq_getElem hi
    have x0 : W.cell? ⟨b, off + i * 3, none⟩ = some (.int .i64 (l[i]).seq) := below_cell hI.below (HRE.out i _ hf).1
    have y0 : W.cell? ⟨w.heap.size, 0, none⟩ = some (.int .i64 seq) := hI.b0.cell 0
    have y1 : W.cell? ⟨w.heap.size + 1, 0, none⟩ = some (.bool false) := hI.b1.cell 0
    have z1 := hI.b1.frozen 0
    have HFI := Aside.mk hf
    clear hI hf
    generalize l[i] = f at *
    have hcase := ahead_cases (step seq f.seq)
    gi_wp2
    apply region_once
    case h1 =>
      gi_region_with_o (refine ⟨trivial, ?_⟩; gi_at_call 158; refine (CallsIn.inRound lx (callsIn_wide.2 (step_calls _ _ _))).mono ?_; rintro e w' ⟨rfl, rfl⟩)
      all_goals exact ⟨rfl, rfl, rfl⟩
    rcases hcase with ⟨ha, q1, q2⟩ | ⟨ha, q1⟩ | ⟨ha, q1, q2⟩
    · have HX : Aside (PX2 w l seq (W.setCell ⟨w.heap.size + 1, 0, none⟩ (.bool true))) := ⟨⟨HI.out.below.setCell (p := ⟨w.heap.size + 1, 0, none⟩) (by show w.heap.size ≤ w.heap.size + 1; omega) _, HI.out.b1.set 0 _⟩, by rw [HI.out.pas, drop_at HFI.out, passGo, stepI_eq, ha]⟩
      gi_wp2
      exact ⟨((KeepsOthers.setCell W ⟨w.heap.size + 1, 0, none⟩ (.bool true)).trans (KeepsOthers.drew _)).from _, ⟨HX.out.1.1.drew, HX.out.1.2⟩, HX.out.2⟩
    · have HN : Aside (PI2 w l seq (i + 1) W) := ⟨HI.out.skip HFI.out ha⟩
      gi_wp2
      exact ⟨(KeepsOthers.drew _).from _, HN.out.drew⟩
    · have HN : Aside (PI2 w l seq (i + 1) W) := ⟨HI.out.skip HFI.out ha⟩
      gi_wp2
      exact ⟨(KeepsOthers.drew _).from _, HN.out.drew⟩
  case done =>
    intro D W hD hI hK
    have HI := Aside.mk hI
    have y1 : W.cell? ⟨w.heap.size + 1, 0, none⟩ = some (.bool false) := hI.b1.cell 0
    have z1 := hI.b1.frozen 0
    clear hI
    gi_wp2
    have hK' := (KeepsOthers.setCell W ⟨w.heap.size + 1, 0, none⟩ (.bool false)).same D _ hK rfl
    refine ⟨by simp, .inl ⟨_, _, rfl, run_takeDeferred hK', ?_⟩⟩
    have hc5 := cell_kept (World.cell?_setCell_same' W ⟨w.heap.size + 1, 0, none⟩ (.bool false) (by rw [y1]; rfl)) (grownBy_putObj' _ D (.deferred none)) (fun r e => by cases e; exact ⟨_, hK', rfl⟩)
    refine ⟨.bool false, by simp [results, Tryz.f162, go_sem, hc5], ?_, (HI.out.below.setCell (p := ⟨w.heap.size + 1, 0, none⟩) (by show w.heap.size ≤ w.heap.size + 1; omega) _).trans (belowK_b (w := w) (Nat.le_refl _) _ D _ _ (by omega) hK' rfl rfl)⟩
    have hP := HI.out.pas
    rw [List.drop_length] at hP
    rw [hP]
    rfl
  case stop =>
    intro D W hD hX hK
    have y1 : W.cell? ⟨w.heap.size + 1, 0, none⟩ = some (.bool true) := hX.1.2.cell 0
    have HX := Aside.mk hX
    clear hX
    gi_wp2
    refine ⟨by simp, .inl ⟨_, _, rfl, run_takeDeferred hK, ?_⟩⟩
    have hc5 := cell_kept y1 (grownBy_putObj' _ D (.deferred none)) (fun r e => by cases e; exact ⟨_, hK, rfl⟩)
    refine ⟨.bool true, by simp [results, Tryz.f162, go_sem, hc5], ?_, HX.out.1.1.trans (belowK_b (w := w) (Nat.le_refl _) _ D _ _ (by omega) hK rfl rfl)⟩
    rw [HX.out.2]
theorem passed_calls (g go b off : Nat) (l : List (Fq Value)) (seq : Int) (w : World) (H : FAt w g go b off l) (hsz : l.length ≤ 5000) :
    Calls Tryz.prog 162 #[.pointer (some ⟨g, go, none⟩), .int .i64 seq] w fun e w' => e = .returned (.bool (passGo seq l)) ∧ Below w.heap.size w w' :=
  callsIn_wide.1 (passed_in g go b off l seq w H hsz)
end Go.Proofs.YtdgjcjhicbgfaaaGreat
