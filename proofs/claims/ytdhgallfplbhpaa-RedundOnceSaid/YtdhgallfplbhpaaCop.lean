/- copied: what a frame is whose number is remembered. Conditions: the filter lies; the network is 0 or 1. -/
import Derived.Test.YtdhgallfplbhpaaEach
namespace Go.Proofs.Ytdhgallfplbhpaa
open Go.RowKit Go.Shelf Go.Proofs.YtdhgallfplbhpaaW.PrintWords
attribute [local go_sem] Oper.semAt_some
set_option linter.unusedVariables false

/-- Whether a frame came on a network. -/
def Fr.hit (f : Fr) (net : Int) : Bool := decide ((f.nets = 1 ∧ net = 0) ∨ (f.nets = 2 ∧ net = 1) ∨ f.nets = 3)
def Fr.well (f : Fr) : Prop := f.nets = 1 ∨ f.nets = 2 ∨ f.nets = 3
theorem Stays.blk {B : Nat} {g : Nat} {t : TypeId} {cs : Array Value} : Stays B (fun W => Blk W g t cs) := fun W W' h _ _ _ _ hk => hk g _ h (.inr rfl)
theorem Stays.below {B n : Nat} {w : World} (h1 : n ≤ B) (h2 : n ≤ w.heap.size) : Stays B (fun W => Below n w W) := fun W W' h h3 h4 h5 h6 hk =>
  ⟨h3.trans h.os, h4.trans h.tape, h5.trans h.output, Nat.le_trans h.size h6, fun k hkn => by
    rw [← h.block k hkn]
    have hlt : k < W.heap.size := by have := h.size; omega
    rw [Array.getElem?_eq_getElem hlt]
    exact hk k _ (Array.getElem?_eq_getElem hlt) (.inl (by omega))⟩
theorem Stays.and {B : Nat} {I J : World → Prop} (h : Stays B I) (k : Stays B J) : Stays B (fun W => I W ∧ J W) := fun W W' ⟨a, b⟩ h1 h2 h3 h4 h5 => ⟨h W W' a h1 h2 h3 h4 h5, k W W' b h1 h2 h3 h4 h5⟩
theorem Stays.pure {B : Nat} {p : Prop} : Stays B (fun _ => p) := fun _ _ h _ _ _ _ _ => h
/-- The boxes of copied; what has been seen. -/
structure CI (w : World) (s : FS) (net seq : Int) (i : Nat) (W : World) : Prop where
  below : Below w.heap.size w W
  b0 : Blk W w.heap.size 3 #[.int .i64 net]
  b1 : Blk W (w.heap.size + 1) 3 #[.int .i64 seq]
  b2 : Blk W (w.heap.size + 1 + 1) 23 #[.int .i64 0]
  b3 : ∃ e : Int, Blk W (w.heap.size + 1 + 1 + 1) 23 #[.int .i64 e] ∧ ((e = 25 ∧ ∃ f ∈ s.l.take i, f.seq = seq) ∨ (e = 0 ∧ ∀ f ∈ s.l.take i, f.seq ≠ seq))
  pas : ∀ f ∈ s.l.take i, f.seq = seq → f.hit net = true
theorem CI.stays {w : World} {s : FS} {net seq : Int} {i B : Nat} (hB : w.heap.size ≤ B) : Stays B (CI w s net seq i) := fun W W' h h1 h2 h3 h4 hk =>
  ⟨Stays.below hB (Nat.le_refl _) W W' h.below h1 h2 h3 h4 hk, Stays.blk (B := B) W W' h.b0 h1 h2 h3 h4 hk, Stays.blk (B := B) W W' h.b1 h1 h2 h3 h4 hk, Stays.blk (B := B) W W' h.b2 h1 h2 h3 h4 hk,
    by obtain ⟨e, hb, he⟩ := h.b3; exact ⟨e, Stays.blk (B := B) W W' hb h1 h2 h3 h4 hk, he⟩, h.pas⟩
theorem take_snoc {s : FS} {i : Nat} {f : Fr} (h : s.l[i]? = some f) : s.l.take (i + 1) = s.l.take i ++ [f] := by rw [List.take_add_one, h]; rfl
theorem CI.drew {w W : World} {s : FS} {net seq : Int} {i : Nat} (h : CI w s net seq i W) : CI w s net seq i W.drew := ⟨h.below.drew, h.b0, h.b1, h.b2, h.b3, h.pas⟩
theorem CI.skip {w W : World} {s : FS} {net seq : Int} {i : Nat} {f : Fr} (h : CI w s net seq i W) (hf : s.l[i]? = some f) (hs : f.seq ≠ seq) : CI w s net seq (i + 1) W := by
  refine ⟨h.below, h.b0, h.b1, h.b2, ?_, ?_⟩
  · obtain ⟨e, hb, he⟩ := h.b3
    refine ⟨e, hb, ?_⟩
    rw [take_snoc hf]
    rcases he with ⟨h1, f', h2, h3⟩ | ⟨h1, h2⟩
    · exact .inl ⟨h1, f', List.mem_append.2 (.inl h2), h3⟩
    · refine .inr ⟨h1, fun f' hf' => ?_⟩
      rcases List.mem_append.1 hf' with h3 | h3
      · exact h2 f' h3
      · simp at h3; subst h3; exact hs
  · rw [take_snoc hf]
    intro f' hf' hs'
    rcases List.mem_append.1 hf' with h3 | h3
    · exact h.pas f' h3 hs'
    · simp at h3; subst h3; exact absurd hs' hs
theorem CI.hitOne {w W : World} {s : FS} {net seq : Int} {i : Nat} {f : Fr} (h : CI w s net seq i W) (hf : s.l[i]? = some f) (hs : f.seq = seq) (hh : f.hit net = true) : CI w s net seq (i + 1) (W.setCell ⟨w.heap.size + 1 + 1 + 1, 0, none⟩ (.int .i64 25)) := by
  obtain ⟨e, hb, he⟩ := h.b3
  refine ⟨h.below.setCell (p := ⟨w.heap.size + 1 + 1 + 1, 0, none⟩) (by show w.heap.size ≤ w.heap.size + 1 + 1 + 1; omega) _, h.b0.far (by show w.heap.size ≠ w.heap.size + 1 + 1 + 1; omega) _, h.b1.far (by show w.heap.size + 1 ≠ w.heap.size + 1 + 1 + 1; omega) _, h.b2.far (by show w.heap.size + 1 + 1 ≠ w.heap.size + 1 + 1 + 1; omega) _, ?_, ?_⟩
  · refine ⟨25, hb.set 0 _, .inl ⟨rfl, f, ?_, hs⟩⟩
    rw [take_snoc hf]
    exact List.mem_append.2 (.inr (by simp))
  · rw [take_snoc hf]
    intro f' hf' hs'
    rcases List.mem_append.1 hf' with h3 | h3
    · exact h.pas f' h3 hs'
    · simp at h3; subst h3; exact hh
theorem CI.start (w : World) (s : FS) (net seq : Int) : CI w s net seq 0 ((((w.alloc (Obj.cells #[Value.int IntKind.i64 net] 3)).alloc (Obj.cells #[Value.int IntKind.i64 seq] 3)).alloc (Obj.cells #[Value.int IntKind.i64 0] 23)).alloc (Obj.cells #[Value.int IntKind.i64 0] 23)) := by
  have e1 : (w.alloc (Obj.cells #[Value.int IntKind.i64 net] 3)).heap.size = w.heap.size + 1 := by simp
  have e2 : ((w.alloc (Obj.cells #[Value.int IntKind.i64 net] 3)).alloc (Obj.cells #[Value.int IntKind.i64 seq] 3)).heap.size = w.heap.size + 1 + 1 := by simp
  have e3 : (((w.alloc (Obj.cells #[Value.int IntKind.i64 net] 3)).alloc (Obj.cells #[Value.int IntKind.i64 seq] 3)).alloc (Obj.cells #[Value.int IntKind.i64 0] 23)).heap.size = w.heap.size + 1 + 1 + 1 := by simp
  have b0 := Blk.new w 3 #[.int .i64 net]
  have b1 := Blk.new (w.alloc (Obj.cells #[Value.int IntKind.i64 net] 3)) 3 #[.int .i64 seq]
  have b2 := Blk.new ((w.alloc (Obj.cells #[Value.int IntKind.i64 net] 3)).alloc (Obj.cells #[Value.int IntKind.i64 seq] 3)) 23 #[.int .i64 0]
  have b3 := Blk.new (((w.alloc (Obj.cells #[Value.int IntKind.i64 net] 3)).alloc (Obj.cells #[Value.int IntKind.i64 seq] 3)).alloc (Obj.cells #[Value.int IntKind.i64 0] 23)) 23 #[.int .i64 0]
  rw [e1] at b1
  rw [e2] at b2
  rw [e3] at b3
  exact ⟨((((Below.refl _ _).alloc (Nat.le_refl _) _).alloc (by rw [e1]; omega) _).alloc (by rw [e2]; omega) _).alloc (by rw [e3]; omega) _, ((b0.alloc _).alloc _).alloc _, (b1.alloc _).alloc _, b2.alloc _,
    ⟨0, b3, .inr ⟨rfl, fun f hf => by simp at hf⟩⟩, fun f hf => by simp at hf⟩
/-- Frame k was a copy's first: it is on both networks now. -/
def CX (w : World) (g : Nat) (s : FS) (net seq : Int) (W : World) : Prop :=
  (∃ k f, s.l[k]? = some f ∧ f.seq = seq ∧ f.hit net = false ∧ (∀ f' ∈ s.l.take k, f'.seq = seq → f'.hit net = true) ∧ PutPost KI w g { s with l := s.l.set k { f with nets := 3 } } W) ∧ Blk W (w.heap.size + 1 + 1) 23 #[.int .i64 21]
theorem Stays.post {w : World} {g : Nat} {s : FS} {B : Nat} (hB : w.heap.size ≤ B) : Stays B (PutPost KI w g s) := fun W W' h h1 h2 h3 h4 hk => by
  obtain ⟨⟨v, hb, hq⟩, ht⟩ := h
  have hb' : Blk W' g 54 _ := hk g _ hb (.inr rfl)
  refine ⟨⟨v, hb', q_move hq fun k hv => ?_⟩, ⟨h1.trans ht.upon.os, h2.trans ht.upon.tape, h3.trans ht.upon.output, Nat.le_trans ht.upon.size h4, fun k hkw hm => ?_⟩, fun k hm => ?_⟩
  · obtain ⟨_, cells, hc⟩ := q_typed hq k hv
    rw [hc]
    exact hk k _ hc (.inr rfl)
  · rw [← ht.upon.block k hkw hm]
    have hlt : k < W.heap.size := by have := ht.upon.size; omega
    rw [Array.getElem?_eq_getElem hlt]
    exact hk k _ (Array.getElem?_eq_getElem hlt) (.inl (by omega))
  · refine ht.mine k ((mine_same ?_ k).1 hm)
    rw [show W.heap[g]? = some _ from hb]
    exact hk g _ hb (.inr rfl)
theorem CX.stays {w : World} {g : Nat} {s : FS} {net seq : Int} {B : Nat} (hB : w.heap.size ≤ B) : Stays B (CX w g s net seq) := fun W W' h h1 h2 h3 h4 hk => by
  obtain ⟨⟨k, f, a1, a2, a3, a4, hp⟩, hb⟩ := h
  exact ⟨⟨k, f, a1, a2, a3, a4, Stays.post hB W W' hp h1 h2 h3 h4 hk⟩, Stays.blk (B := B) W W' hb h1 h2 h3 h4 hk⟩
theorem mark_post {w W : World} {g : Nat} {s : FS} {b off n c i k : Nat} {f : Fr} {u : Value} (H : Held KI w g s) (hB : Below w.heap.size w W) (h0 : w.cell? ⟨g, 0, none⟩ = some (.slice (some ⟨b, off, none⟩) n c)) (hf : s.l[i]? = some f) (hk : w.heap.size ≤ k) :
    PutPost KI w g { s with l := s.l.set i { f with nets := 3 } } ((W.setCell ⟨b, off + i * 3 + 2, none⟩ (.int .u64 3)).setCell ⟨k, 0, none⟩ u) := by
  have hi : i < s.l.length := (List.getElem?_eq_some_iff.1 hf).1
  obtain ⟨v, hb, hq⟩ := H
  have hv : v = .slice (some ⟨b, off, none⟩) n c := by
    have := hb.cell 0
    rw [h0] at this
    simpa [FS.cells] using this.symm
  subst hv
  have hne : (Value.slice (some ⟨b, off, none⟩) n c).ownBlock ≠ some g := Held.ne hb hq
  have hbg : b ≠ g := fun e => hne (by simp [Value.ownBlock, e])
  have hblt : b < w.heap.size := q_lt hq b (by simp [Value.ownBlock])
  have hglt := hb.lt
  have hbW : Blk W g 54 _ := (hB.block g hglt).trans hb
  have hqW : QRow W 0 60 3 _ s.l.length _ := q_move hq fun k hk => hB.block k (q_lt hq k hk)
  obtain ⟨A, c', he, hnc⟩ := q_slice hqW
  injection he with e1 e2 e3
  subst e2
  have hb2 := (hbW.far (p := ⟨b, off + i * 3 + 2, none⟩) (fun e => hbg e.symm) (.int .u64 3)).far (p := ⟨k, 0, none⟩) (by show g ≠ k; omega) u
  have hset := q_set hqW (j := i * 3 + 2) (by omega) (.int .u64 3)
  have hes : (KI.encs s.l).set (i * 3 + 2) (.int .u64 3) = _ := encs_set (K := KI) s.l i f { f with nets := 3 } 2 (.int .u64 3) hf (by decide) rfl
  rw [hes, show off + (i * 3 + 2) = off + i * 3 + 2 by omega] at hset
  have hset2 := q_move (w1 := (W.setCell ⟨b, off + i * 3 + 2, none⟩ (.int .u64 3)).setCell ⟨k, 0, none⟩ u) hset fun j hj => Below.heap_setCell _ ⟨k, 0, none⟩ u j (by
    have : b = j := by simpa [Value.ownBlock] using hj
    show j ≠ k
    omega)
  have hl : (s.l.set i { f with nets := 3 }).length = s.l.length := List.length_set
  refine ⟨⟨_, hb2, by show QRow _ 0 60 3 _ (s.l.set i { f with nets := 3 }).length _; rw [hl]; exact hset2⟩, ?_, fun j hj => .inl ((mine_same ?_ j).1 hj)⟩
  · have u1 : Upon (Mine w g) w W := Upon.of_below hB
    exact (u1.set ⟨b, off + i * 3 + 2, none⟩ _ (.inl ((mine_of hb).2 (.inr (by simp [Value.ownBlock]))))).set ⟨k, 0, none⟩ _ (.inr hk)
  · rw [show w.heap[g]? = some _ from hb]
    exact hb2
theorem CX.of {w W : World} {g : Nat} {s : FS} {net seq : Int} {i b off c : Nat} {A : Option Addr} {f : Fr} (H : Held KI w g s) (h : CI w s net seq i W) (h0 : w.cell? ⟨g, 0, none⟩ = some (.slice A s.l.length c)) (hA : A = some ⟨b, off, none⟩) (hf : s.l[i]? = some f) (hs : f.seq = seq) (hh : f.hit net = false) :
    CX w g s net seq ((W.setCell ⟨b, off + i * 3 + 2, none⟩ (.int .u64 3)).setCell ⟨w.heap.size + 1 + 1, 0, none⟩ (.int .i64 21)) := by
  subst hA
  have hp := mark_post (k := w.heap.size + 1 + 1) (u := .int .i64 21) H h.below h0 hf (by omega)
  have hblt : b < w.heap.size := by
    obtain ⟨v, hb, hq⟩ := H
    have hv : v = .slice (some ⟨b, off, none⟩) s.l.length c := by
      have := hb.cell 0
      rw [h0] at this
      simpa [FS.cells] using this.symm
    subst hv
    exact q_lt hq b (by simp [Value.ownBlock])
  exact ⟨⟨i, f, hf, hs, hh, h.pas, hp⟩, (h.b2.far (p := ⟨b, off + i * 3 + 2, none⟩) (by show w.heap.size + 1 + 1 ≠ b; omega) _).set 0 _⟩
theorem CX.drew {w W : World} {g : Nat} {s : FS} {net seq : Int} (h : CX w g s net seq W) : CX w g s net seq W.drew := by
  obtain ⟨⟨k, f, a1, a2, a3, a4, hp⟩, hb⟩ := h
  exact ⟨⟨k, f, a1, a2, a3, a4, hp.drewN 1⟩, hb⟩
/-- A region whose every order ends alike is walked on once. -/
theorem region_once {F : Fence} {n : Nat} {P : Program} {c : Code} {Q : Exit → Act → World → Prop} {a : Act} {w : World} {X : Act} (h1 : c.wpIn F n P (fun e a' w' => e = .normal ∧ a' = X ∧ w' = w.drew) a w) (h2 : Q .normal X w.drew) : c.wpIn F n P Q a w :=
  wpIn_mono h1 fun e a' w' ⟨he, ha, hw⟩ => by subst he; subst ha; subst hw; exact h2
/-- What copied answers and leaves. -/
def CopPost (w : World) (g : Nat) (s : FS) (net seq : Int) (e : Ending) (w' : World) : Prop :=
  (e = .returned (.int .i64 21) ∧ ∃ k f, s.l[k]? = some f ∧ f.seq = seq ∧ f.hit net = false ∧ (∀ f' ∈ s.l.take k, f'.seq = seq → f'.hit net = true) ∧ PutPost KI w g { s with l := s.l.set k { f with nets := 3 } } w') ∨
  ((∀ f ∈ s.l, f.seq = seq → f.hit net = true) ∧ ((e = .returned (.int .i64 25) ∧ ∃ f ∈ s.l, f.seq = seq) ∨ (e = .returned (.int .i64 0) ∧ ∀ f ∈ s.l, f.seq ≠ seq)) ∧ PutPost KI w g s w')
set_option maxRecDepth 100000 in
set_option maxHeartbeats 4000000 in
theorem copied_in (F : Fence) (n : Nat) (h24 : F.fn 24) (h28 : F.fn 28) (hro : F.round = none) (hn : 4 ≤ n) (g : Nat) (s : FS) (net seq : Int) (w : World) (H : Held KI w g s) (hnet : net = 0 ∨ net = 1) (hwl : ∀ f ∈ s.l, f.well) (hsz : s.l.length ≤ 5000) :
    CallsIn F n Try.prog 24 #[.pointer (some ⟨g, 0, none⟩), .int .i64 net, .int .i64 seq] w fun e w' => CopPost w g s net seq e w' := by
  have h1 : 1 ≤ n := by omega
  have HH := Aside.mk H
  have hlt := H.lt
  obtain ⟨A, c, hsl, _⟩ := H.slice
  obtain ⟨b, off, hA, hre⟩ : ∃ b off, (0 < s.l.length → A = some ⟨b, off, none⟩) ∧ (∀ i f, s.l[i]? = some f → ∀ j u, j < 3 → (KI.enc f)[j]? = some u → w.cell? ⟨b, off + i * 3 + j, none⟩ = some u) := by
    by_cases hp : 0 < s.l.length
    · obtain ⟨b, off, c', h0, _, hr⟩ := H.reads hp
      rw [hsl] at h0
      injection h0 with h0
      injection h0 with h0 _ _
      exact ⟨b, off, fun _ => h0, hr⟩
    · exact ⟨0, 0, fun h => absurd h hp, fun i f hf => by rw [List.getElem?_eq_none (by omega)] at hf; cases hf⟩
  have HFZ : Aside (∀ W : World, Below w.heap.size w W → 0 < s.l.length → ∀ o, W.frozen? ⟨b, o, none⟩ = false) := ⟨fun W hB hp o => by
    obtain ⟨v, hb, hq⟩ := H
    have hv : v = .slice A s.l.length c := by
      have := hb.cell 0
      rw [hsl] at this
      simpa [FS.cells] using this.symm
    subst hv
    rw [hA hp] at hq
    obtain ⟨_, cells, hc⟩ := q_typed hq b (by simp [Value.ownBlock])
    have hc' : Blk W b 60 cells := (hB.block b (q_lt hq b (by simp [Value.ownBlock]))).trans hc
    exact hc'.frozen o⟩
  have HBL : Aside (0 < s.l.length → b < w.heap.size) := ⟨fun hp => by
    obtain ⟨v, hb, hq⟩ := H
    have hv : v = .slice A s.l.length c := by
      have := hb.cell 0
      rw [hsl] at this
      simpa [FS.cells] using this.symm
    subst hv
    rw [hA hp] at hq
    exact q_lt hq b (by simp [Value.ownBlock])⟩
  have HA := Aside.mk hA
  have HRE := Aside.mk hre
  have HSL := Aside.mk hsl
  have HWL := Aside.mk hwl
  clear H hA hre hsl hwl
  refine callsIn_of_wp_marks Try.func24 rfl h24 ?_ hro
  simp only [Try.ntmps24, List.size_toArray, List.length_cons, List.length_nil, Nat.reduceAdd, Nat.reduceSub, Array.replicate_succ, Array.replicate_zero, List.push_toArray, List.append_toArray, List.nil_append, List.cons_append]
  gi_wp2
  have HI0 : Aside (CI w s net seq 0 ((((w.alloc (Obj.cells #[Value.int IntKind.i64 net] 3)).alloc (Obj.cells #[Value.int IntKind.i64 seq] 3)).alloc (Obj.cells #[Value.int IntKind.i64 0] 23)).alloc (Obj.cells #[Value.int IntKind.i64 0] 23))) := ⟨CI.start w s net seq⟩
  generalize hW4 : World.alloc _ _ = W4 at HI0
  try rw [hW4]
  have hB : w.heap.size ≤ W4.heap.size := HI0.out.below.size
  refine wpIn_rangeBound hro h1 (gf := 28) (fb := #[.pointer (some ⟨g, 0, none⟩)]) (N := s.l.length) (enc := fun i => .pointer (some ⟨b, off + i * 3, none⟩)) (Rd := EachRd g b off s.l.length) rfl h28 (enters_of Try.func28 (by kernel_rfl) rfl)
    (each_gives F (n - 1) h28 hro (by omega) g b off _ hsz) (fun i => CI w s net seq i) (CX w g s net seq) (fun i => CI.stays hB) (CX.stays hB) (fun i W h => ⟨A, c, below_cell h.below HSL.out, HA.out⟩) HI0.out
    (fun i => { tmps := #[Value.pointer (some { block := g, off := 0 }), Value.int IntKind.i64 net, Value.int IntKind.i64 seq, undef,
          Value.pointer (some { block := w.heap.size, off := 0 }), Value.pointer (some { block := w.heap.size + 1, off := 0 }),
          Value.pointer (some { block := w.heap.size + 1 + 1, off := 0 }), Value.pointer (some { block := w.heap.size + 1 + 1 + 1, off := 0 }), .pointer (some ⟨b, off + i * 3, none⟩),
          Value.pointer (some { block := g, off := 0 }), Value.func (Fn.func 28) #[Value.pointer (some { block := g, off := 0 })] #[], .pointer (some ⟨b, off + i * 3, none⟩), undef, undef, undef,
          undef, undef, undef, undef, undef, undef, undef, undef, undef, undef, undef, undef, undef, undef, undef, undef, undef, undef], defers := [] }) ?assign ?body ?done ?stop
  case assign =>
    intro l i W K hK
    gi_wp2
    exact hK
  case body =>
    intro l i W hi hI
    have hmx : Try.prog.follows .mixedOrders = true := by kernel_rfl
    have HI := Aside.mk hI
    have hf := List.getElem?_eq_getElem hi
    have x0 : W.cell? ⟨b, off + i * 3, none⟩ = some (.int .i64 (s.l[i]).seq) := below_cell hI.below (HRE.out i _ hf 0 _ (by decide) rfl)
    have x2 : W.cell? ⟨b, off + i * 3 + 2, none⟩ = some (.int .u64 (s.l[i]).nets) := below_cell hI.below (HRE.out i _ hf 2 _ (by decide) rfl)
    have HWF := Aside.mk (HWL.out _ (List.getElem_mem hi))
    have y0 : W.cell? ⟨w.heap.size, 0, none⟩ = some (.int .i64 net) := hI.b0.cell 0
    have y1 : W.cell? ⟨w.heap.size + 1, 0, none⟩ = some (.int .i64 seq) := hI.b1.cell 0
    have y2 : W.cell? ⟨w.heap.size + 1 + 1, 0, none⟩ = some (.int .i64 0) := hI.b2.cell 0
    have z2 := hI.b2.frozen 0
    obtain ⟨e, hb3, he⟩ := hI.b3
    have y3 : W.cell? ⟨w.heap.size + 1 + 1 + 1, 0, none⟩ = some (.int .i64 e) := hb3.cell 0
    have z3 := hb3.frozen 0
    have HB3 := Aside.mk hb3
    have HE := Aside.mk he
    have HFI := Aside.mk hf
    clear hI hf hb3 he
    generalize s.l[i] = f at *
    by_cases hs : f.seq = seq
    · rw [hs] at x0
      have hcase : (f.hit net = true ∧ ((f.nets = 1 ∧ net = 0) ∨ (f.nets = 2 ∧ net = 1) ∨ (f.nets = 3 ∧ net = 0) ∨ (f.nets = 3 ∧ net = 1))) ∨ (f.hit net = false ∧ ((f.nets = 1 ∧ net = 1) ∨ (f.nets = 2 ∧ net = 0))) := by
        rcases HWF.out with h | h | h <;> rcases hnet with h' | h' <;> simp [Fr.hit, h, h']
      rcases hcase with ⟨hh, hc⟩ | ⟨hh, hc⟩
      · have HN : Aside (CI w s net seq (i + 1) (W.setCell ⟨w.heap.size + 1 + 1 + 1, 0, none⟩ (.int .i64 25))) := ⟨HI.out.hitOne HFI.out hs hh⟩
        have hb4 : W4.heap.size ≤ W4.heap.size := Nat.le_refl _
        rcases hc with ⟨h1', h2'⟩ | ⟨h1', h2'⟩ | ⟨h1', h2'⟩ | ⟨h1', h2'⟩
        all_goals
          subst h2'
          rw [h1'] at x2
          gi_wp2
          apply region_once
          case h1 =>
            gi_region_with_o (fail)
            all_goals exact ⟨rfl, rfl, rfl⟩
          gi_wp2
          apply region_once
          case h1 =>
            gi_region_with_o (fail)
            all_goals exact ⟨rfl, rfl, rfl⟩
          gi_wp2
          exact ⟨((KeepsOthers.setCell W ⟨w.heap.size + 1 + 1 + 1, 0, none⟩ (.int .i64 25)).trans ((KeepsOthers.drew _).trans (KeepsOthers.drew _))).from _, HN.out.drew.drew⟩
      · have HN : Aside (CX w g s net seq ((W.setCell ⟨b, off + i * 3 + 2, none⟩ (.int .u64 3)).setCell ⟨w.heap.size + 1 + 1, 0, none⟩ (.int .i64 21))) := ⟨CX.of HH.out HI.out HSL.out (HA.out (by omega)) HFI.out hs hh⟩
        have zf : W.frozen? ⟨b, off + i * 3 + 2, none⟩ = false := HFZ.out W HI.out.below (by omega) _
        have hbn : b ≠ w.heap.size + 1 + 1 := by have := HBL.out (by omega); omega
        rcases hc with ⟨h1', h2'⟩ | ⟨h1', h2'⟩
        all_goals
          subst h2'
          rw [h1'] at x2
          gi_wp2
          apply region_once
          case h1 =>
            gi_region_with_o (fail)
            all_goals exact ⟨rfl, rfl, rfl⟩
          gi_wp2
          apply region_once
          case h1 =>
            gi_region_with_o (fail)
            all_goals exact ⟨rfl, rfl, rfl⟩
          gi_wp2
          exact ⟨(((KeepsOthers.setCell W ⟨b, off + i * 3 + 2, none⟩ (.int .u64 3)).trans (KeepsOthers.setCell _ ⟨w.heap.size + 1 + 1, 0, none⟩ (.int .i64 21))).trans ((KeepsOthers.drew _).trans (KeepsOthers.drew _))).from _, HN.out.drew.drew⟩
    · have HN : Aside (CI w s net seq (i + 1) W) := ⟨HI.out.skip HFI.out hs⟩
      gi_wp2
      apply region_once
      case h1 =>
        gi_region_with_o (fail)
        all_goals exact ⟨rfl, rfl, rfl⟩
      gi_wp2
      exact ⟨(KeepsOthers.drew _).from _, HN.out.drew⟩
  case done =>
    intro D W hD hI hK
    have HI := Aside.mk hI
    have y2 : W.cell? ⟨w.heap.size + 1 + 1, 0, none⟩ = some (.int .i64 0) := hI.b2.cell 0
    have z2 := hI.b2.frozen 0
    obtain ⟨e, hb3, he⟩ := hI.b3
    have y3 : W.cell? ⟨w.heap.size + 1 + 1 + 1, 0, none⟩ = some (.int .i64 e) := hb3.cell 0
    have HE := Aside.mk he
    clear hI he hb3
    gi_wp2
    have hK' := (KeepsOthers.setCell W ⟨w.heap.size + 1 + 1, 0, none⟩ (.int .i64 e)).same D _ hK rfl
    refine ⟨by simp, .inl ⟨_, _, rfl, run_takeDeferred hK', ?_⟩⟩
    have hc5 := cell_kept (World.cell?_setCell_same' W ⟨w.heap.size + 1 + 1, 0, none⟩ (.int .i64 e) (by rw [y2]; rfl)) (grownBy_putObj' _ D (.deferred none)) (fun r e => by cases e; exact ⟨_, hK', rfl⟩)
    refine ⟨.int .i64 e, by simp [results, Try.f24, go_sem, hc5], ?_⟩
    have hbel : Below w.heap.size w ((W.setCell ⟨w.heap.size + 1 + 1, 0, none⟩ (.int .i64 e)).putObj D (.deferred none)) :=
      (HI.out.below.setCell (p := ⟨w.heap.size + 1 + 1, 0, none⟩) (by show w.heap.size ≤ w.heap.size + 1 + 1; omega) _).trans (belowK_b (w := w) (Nat.le_refl _) _ D _ _ (by omega) hK' rfl rfl)
    have htk : s.l.take s.l.length = s.l := List.take_length
    have hE := HE.out
    have hP := HI.out.pas
    rw [htk] at hE hP
    refine .inr ⟨hP, ?_, HH.out.below hbel⟩
    rcases hE with ⟨rfl, h⟩ | ⟨rfl, h⟩
    · exact .inl ⟨rfl, h⟩
    · exact .inr ⟨rfl, h⟩
  case stop =>
    intro D W hD hX hK
    have y2 : W.cell? ⟨w.heap.size + 1 + 1, 0, none⟩ = some (.int .i64 21) := hX.2.cell 0
    have HX := Aside.mk hX
    clear hX
    gi_wp2
    refine ⟨by simp, .inl ⟨_, _, rfl, run_takeDeferred hK, ?_⟩⟩
    have hc5 := cell_kept y2 (grownBy_putObj' _ D (.deferred none)) (fun r e => by cases e; exact ⟨_, hK, rfl⟩)
    refine ⟨.int .i64 21, by simp [results, Try.f24, go_sem, hc5], ?_⟩
    obtain ⟨⟨k, f, a1, a2, a3, a4, hp⟩, _⟩ := HX.out
    exact .inl ⟨rfl, k, f, a1, a2, a3, a4, (Stays.post (B := w.heap.size) (Nat.le_refl _)).putObj _ hp (by omega) hK rfl⟩
theorem copied_calls (g : Nat) (s : FS) (net seq : Int) (w : World) (H : Held KI w g s) (hnet : net = 0 ∨ net = 1) (hwl : ∀ f ∈ s.l, f.well) (hsz : s.l.length ≤ 5000) :
    Calls Try.prog 24 #[.pointer (some ⟨g, 0, none⟩), .int .i64 net, .int .i64 seq] w fun e w' => CopPost w g s net seq e w' :=
  callsIn_wide.1 (copied_in Fence.wide 5 trivial trivial rfl (by omega) g s net seq w H hnet hwl hsz)
end Go.Proofs.Ytdhgallfplbhpaa
