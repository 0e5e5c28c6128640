/- passed: whether a frame is remembered that is ahead of a number. Conditions: the filter lies. -/
import Derived.Test.YtdhgallfplbhpaaCop
namespace Go.Proofs.Ytdhgallfplbhpaa
open Go.RowKit Go.Shelf Go.Proofs.YtdhgallfplbhpaaW.PrintWords
attribute [local go_sem] Oper.semAt_some
set_option linter.unusedVariables false

/-- A frame's number is ahead of another one. -/
def Fr.ahead (f : Fr) (seq : Int) : Bool := decide (1 ≤ step seq f.seq ∧ step seq f.seq ≤ 127)
structure PI (w : World) (s : FS) (seq : Int) (i : Nat) (W : World) : Prop where
  below : Below w.heap.size w W
  b0 : Blk W w.heap.size 3 #[.int .i64 seq]
  b1 : Blk W (w.heap.size + 1) 4 #[.bool false]
  pas : ∀ f ∈ s.l.take i, f.ahead seq = false
theorem PI.stays {w : World} {s : FS} {seq : Int} {i B : Nat} (hB : w.heap.size ≤ B) : Stays B (PI w s seq i) := fun W W' h h1 h2 h3 h4 hk =>
  ⟨Stays.below hB (Nat.le_refl _) W W' h.below h1 h2 h3 h4 hk, Stays.blk (B := B) W W' h.b0 h1 h2 h3 h4 hk, Stays.blk (B := B) W W' h.b1 h1 h2 h3 h4 hk, h.pas⟩
theorem PI.drew {w W : World} {s : FS} {seq : Int} {i : Nat} (h : PI w s seq i W) : PI w s seq i W.drew := ⟨h.below.drew, h.b0, h.b1, h.pas⟩
theorem PI.skip {w W : World} {s : FS} {seq : Int} {i : Nat} {f : Fr} (h : PI w s seq i W) (hf : s.l[i]? = some f) (hs : f.ahead seq = false) : PI w s seq (i + 1) W := by
  refine ⟨h.below, h.b0, h.b1, ?_⟩
  rw [take_snoc hf]
  intro f' hf'
  rcases List.mem_append.1 hf' with h3 | h3
  · exact h.pas f' h3
  · simp at h3; subst h3; exact hs
theorem PI.start (w : World) (s : FS) (seq : Int) : PI w s seq 0 ((w.alloc (Obj.cells #[Value.int IntKind.i64 seq] 3)).alloc (Obj.cells #[Value.bool false] 4)) := by
  have e1 : (w.alloc (Obj.cells #[Value.int IntKind.i64 seq] 3)).heap.size = w.heap.size + 1 := by simp
  have b1 := Blk.new (w.alloc (Obj.cells #[Value.int IntKind.i64 seq] 3)) 4 #[.bool false]
  rw [e1] at b1
  exact ⟨((Below.refl _ _).alloc (Nat.le_refl _) _).alloc (by rw [e1]; omega) _, (Blk.new w 3 #[.int .i64 seq]).alloc _, b1, fun f hf => by simp at hf⟩
def PX (w : World) (s : FS) (seq : Int) (W : World) : Prop := (Below w.heap.size w W ∧ Blk W (w.heap.size + 1) 4 #[.bool true]) ∧ ∃ f ∈ s.l, f.ahead seq = true
theorem PX.stays {w : World} {s : FS} {seq : Int} {B : Nat} (hB : w.heap.size ≤ B) : Stays B (PX w s seq) := fun W W' h h1 h2 h3 h4 hk =>
  ⟨⟨Stays.below hB (Nat.le_refl _) W W' h.1.1 h1 h2 h3 h4 hk, Stays.blk (B := B) W W' h.1.2 h1 h2 h3 h4 hk⟩, h.2⟩
def FS.passed (s : FS) (seq : Int) : Bool := s.l.any fun f => f.ahead seq
set_option maxRecDepth 100000 in
set_option maxHeartbeats 4000000 in
theorem passed_in (g : Nat) (s : FS) (seq : Int) (w : World) (H : Held KI w g s) (hsz : s.l.length ≤ 5000) :
    CallsIn Fence.wide 5 Try.prog 25 #[.pointer (some ⟨g, 0, none⟩), .int .i64 seq] w fun e w' => e = .returned (.bool (s.passed seq)) ∧ Below w.heap.size w w' := by
  have h1 : 1 ≤ 5 := by omega
  have HH := Aside.mk H
  have hlt := H.lt
  obtain ⟨A, c, hsl, _⟩ := H.slice
  obtain ⟨b, off, hA, hre⟩ : ∃ b off, (0 < s.l.length → A = some ⟨b, off, none⟩) ∧ (∀ i f, s.l[i]? = some f → ∀ j u, j < 3 → (KI.enc f)[j]? = some u → w.cell? ⟨b, off + i * 3 + j, none⟩ = some u) := by
    by_cases hp : 0 < s.l.length
    · obtain ⟨b, off, c', h0, _, hr⟩ := H.reads hp
      rw [hsl] at h0
      injection h0 with h0
      injection h0 with h0 _ _
      exact ⟨b, off, fun _ => h0, hr⟩
    · exact ⟨0, 0, fun h => absurd h hp, fun i f hf => by rw [List.getElem?_eq_none (by omega)] at hf; cases hf⟩
  have HA := Aside.mk hA
  have HRE := Aside.mk hre
  have HSL := Aside.mk hsl
  clear H hA hre hsl
  refine callsIn_of_wp_marks Try.func25 rfl trivial ?_ rfl
  simp only [Try.ntmps25, List.size_toArray, List.length_cons, List.length_nil, Nat.reduceAdd, Nat.reduceSub, Array.replicate_succ, Array.replicate_zero, List.push_toArray, List.append_toArray, List.nil_append, List.cons_append]
  gi_wp2
  have HI0 : Aside (PI w s seq 0 ((w.alloc (Obj.cells #[Value.int IntKind.i64 seq] 3)).alloc (Obj.cells #[Value.bool false] 4))) := ⟨PI.start w s seq⟩
  generalize hW4 : World.alloc _ _ = W4 at HI0
  try rw [hW4]
  have hB : w.heap.size ≤ W4.heap.size := HI0.out.below.size
  refine wpIn_rangeBound (F := Fence.wide) rfl h1 (gf := 28) (fb := #[.pointer (some ⟨g, 0, none⟩)]) (N := s.l.length) (enc := fun i => .pointer (some ⟨b, off + i * 3, none⟩)) (Rd := EachRd g b off s.l.length) rfl trivial (enters_of Try.func28 (by kernel_rfl) rfl)
    (each_gives Fence.wide (5 - 1) trivial rfl (by omega) g b off _ hsz) (fun i => PI w s seq i) (PX w s seq) (fun i => PI.stays hB) (PX.stays hB) (fun i W h => ⟨A, c, below_cell h.below HSL.out, HA.out⟩) HI0.out
    (fun i => { tmps := #[Value.pointer (some { block := g, off := 0 }), Value.int IntKind.i64 seq, undef,
          Value.pointer (some { block := w.heap.size, off := 0 }), Value.pointer (some { block := w.heap.size + 1, off := 0 }), .pointer (some ⟨b, off + i * 3, none⟩), undef,
          Value.pointer (some { block := g, off := 0 }), Value.func (Fn.func 28) #[Value.pointer (some { block := g, off := 0 })] #[], .pointer (some ⟨b, off + i * 3, none⟩), undef, undef, undef,
          undef, undef, undef, undef, undef, undef, undef, undef, undef], defers := [] }) ?assign ?body ?done ?stop
  case assign =>
    intro l i W K hK
    gi_wp2
    exact hK
  case body =>
    intro l i W hi hI
    have hmx : Try.prog.follows .mixedOrders = true := by kernel_rfl
    have HI := Aside.mk hI
    have hf := List.getElem?_eq_getElem hi
    have x0 : W.cell? ⟨b, off + i * 3, none⟩ = some (.int .i64 (s.l[i]).seq) := below_cell hI.below (HRE.out i _ hf 0 _ (by decide) rfl)
    have y0 : W.cell? ⟨w.heap.size, 0, none⟩ = some (.int .i64 seq) := hI.b0.cell 0
    have y1 : W.cell? ⟨w.heap.size + 1, 0, none⟩ = some (.bool false) := hI.b1.cell 0
    have z1 := hI.b1.frozen 0
    have HFI := Aside.mk hf
    clear hI hf
    generalize s.l[i] = f at *
    have hr := step_range seq f.seq
    have hcase : (f.ahead seq = true ∧ 1 ≤ step seq f.seq ∧ step seq f.seq ≤ 127) ∨ (f.ahead seq = false ∧ ¬ 1 ≤ step seq f.seq) ∨ (f.ahead seq = false ∧ 1 ≤ step seq f.seq ∧ ¬ step seq f.seq ≤ 127) := by
      unfold Fr.ahead
      by_cases h1 : 1 ≤ step seq f.seq
      · by_cases h2 : step seq f.seq ≤ 127
        · exact .inl ⟨decide_eq_true ⟨h1, h2⟩, h1, h2⟩
        · exact .inr (.inr ⟨decide_eq_false (fun h => h2 h.2), h1, h2⟩)
      · exact .inr (.inl ⟨decide_eq_false (fun h => h1 h.1), h1⟩)
    gi_wp2
    apply region_once
    case h1 =>
      gi_region_with_o (refine ⟨trivial, ?_⟩; gi_at_call 29; refine (CallsIn.inRound l (callsIn_wide.2 (step_calls _ _ _))).mono ?_; rintro e w' ⟨rfl, rfl⟩)
      all_goals exact ⟨rfl, rfl, rfl⟩
    rcases hcase with ⟨ha, q1, q2⟩ | ⟨ha, q1⟩ | ⟨ha, q1, q2⟩
    · have HX : Aside (PX w s seq (W.setCell ⟨w.heap.size + 1, 0, none⟩ (.bool true))) := ⟨⟨HI.out.below.setCell (p := ⟨w.heap.size + 1, 0, none⟩) (by show w.heap.size ≤ w.heap.size + 1; omega) _, HI.out.b1.set 0 _⟩, f, List.mem_of_getElem? HFI.out, ha⟩
      gi_wp2
      exact ⟨((KeepsOthers.setCell W ⟨w.heap.size + 1, 0, none⟩ (.bool true)).trans (KeepsOthers.drew _)).from _, ⟨HX.out.1.1.drew, HX.out.1.2⟩, HX.out.2⟩
    · have HN : Aside (PI w s seq (i + 1) W) := ⟨HI.out.skip HFI.out ha⟩
      gi_wp2
      exact ⟨(KeepsOthers.drew _).from _, HN.out.drew⟩
    · have HN : Aside (PI w s seq (i + 1) W) := ⟨HI.out.skip HFI.out ha⟩
      gi_wp2
      exact ⟨(KeepsOthers.drew _).from _, HN.out.drew⟩
  case done =>
    intro D W hD hI hK
    have HI := Aside.mk hI
    have y1 : W.cell? ⟨w.heap.size + 1, 0, none⟩ = some (.bool false) := hI.b1.cell 0
    have z1 := hI.b1.frozen 0
    clear hI
    gi_wp2
    have hK' := (KeepsOthers.setCell W ⟨w.heap.size + 1, 0, none⟩ (.bool false)).same D _ hK rfl
    refine ⟨by simp, .inl ⟨_, _, rfl, run_takeDeferred hK', ?_⟩⟩
    have hc5 := cell_kept (World.cell?_setCell_same' W ⟨w.heap.size + 1, 0, none⟩ (.bool false) (by rw [y1]; rfl)) (grownBy_putObj' _ D (.deferred none)) (fun r e => by cases e; exact ⟨_, hK', rfl⟩)
    refine ⟨.bool false, by simp [results, Try.f25, go_sem, hc5], ?_, (HI.out.below.setCell (p := ⟨w.heap.size + 1, 0, none⟩) (by show w.heap.size ≤ w.heap.size + 1; omega) _).trans (belowK_b (w := w) (Nat.le_refl _) _ D _ _ (by omega) hK' rfl rfl)⟩
    have hP := HI.out.pas
    rw [List.take_length] at hP
    have : s.passed seq = false := by
      unfold FS.passed
      rw [List.any_eq_false]
      intro f hf
      rw [hP f hf]
      decide
    rw [this]
  case stop =>
    intro D W hD hX hK
    have y1 : W.cell? ⟨w.heap.size + 1, 0, none⟩ = some (.bool true) := hX.1.2.cell 0
    have HX := Aside.mk hX
    clear hX
    gi_wp2
    refine ⟨by simp, .inl ⟨_, _, rfl, run_takeDeferred hK, ?_⟩⟩
    have hc5 := cell_kept y1 (grownBy_putObj' _ D (.deferred none)) (fun r e => by cases e; exact ⟨_, hK, rfl⟩)
    refine ⟨.bool true, by simp [results, Try.f25, go_sem, hc5], ?_, HX.out.1.1.trans (belowK_b (w := w) (Nat.le_refl _) _ D _ _ (by omega) hK rfl rfl)⟩
    obtain ⟨f, hf, ha⟩ := HX.out.2
    have : s.passed seq = true := by
      unfold FS.passed
      rw [List.any_eq_true]
      exact ⟨f, hf, ha⟩
    rw [this]
theorem passed_calls (g : Nat) (s : FS) (seq : Int) (w : World) (H : Held KI w g s) (hsz : s.l.length ≤ 5000) :
    Calls Try.prog 25 #[.pointer (some ⟨g, 0, none⟩), .int .i64 seq] w fun e w' => e = .returned (.bool (s.passed seq)) ∧ Below w.heap.size w w' :=
  callsIn_wide.1 (passed_in g s seq w H hsz)
end Go.Proofs.Ytdhgallfplbhpaa
