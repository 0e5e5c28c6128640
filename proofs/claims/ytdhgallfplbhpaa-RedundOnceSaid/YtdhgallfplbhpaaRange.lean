/- A range over a method value that is bound to its receiver: the law of the statement, by an index. Conditions: plain lemmas. -/
import Derived.Test.YtdhgallfplbhpaaBase
import Derived.RangeFuncNested
import Derived.RangeFuncBound
import Derived.RangeFuncCalls
import Derived.RangeFuncLeaves
import Derived.Shelf.Abstract
import Derived.Shelf.RegionOpen
import Derived.OwnWalkIn
import Derived.TacticsInMore
import Derived.LoopNIn
import Derived.LoopIn
namespace Go.Proofs.Ytdhgallfplbhpaa
open Go.RowKit Go.Shelf
set_option linter.unusedVariables false

/-- What does not mind new blocks, nor a turn of a block from B on that holds no cells. -/
def Stays (B : Nat) (I : World → Prop) : Prop :=
  ∀ W W' : World, I W → W'.os = W.os → W'.tape = W.tape → W'.output = W.output → W.heap.size ≤ W'.heap.size → (∀ k o, W.heap[k]? = some o → (k < B ∨ o.isCells = true) → W'.heap[k]? = some o) → I W'
theorem Stays.alloc {B : Nat} {I : World → Prop} (h : Stays B I) {W : World} (o : Obj) (hi : I W) : I (W.alloc o) :=
  h W _ hi rfl rfl rfl (by simp) fun k o' hk _ => (Below.heap_alloc W o k (Array.getElem?_eq_some_iff.1 hk).1).trans hk
theorem Stays.putObj {B : Nat} {I : World → Prop} (h : Stays B I) {W : World} {l : Nat} {o : Obj} (o' : Obj) (hi : I W) (hB : B ≤ l) (hl : W.heap[l]? = some o) (hc : o.isCells = false) : I (W.putObj l o') :=
  h W _ hi rfl rfl rfl (by simp) fun k o'' hk hor => by
    by_cases e : k = l
    · subst e
      rw [hl] at hk
      cases hk
      rcases hor with h1 | h1
      · omega
      · rw [hc] at h1; cases h1
    · exact (World.putObj_heap_other e).trans hk
/-- How the body of a round may be left. -/
def roundEnd (B : Nat) (I : World → Prop) (Ix : World → Prop) (W : World) : Exit → Act → World → Prop
  | .normal, _, W' => KeepsFrom B W W' ∧ I W'
  | .ret, _, W' => KeepsFrom B W W' ∧ Ix W'
  | _, _, _ => False
variable {F : Fence} {n : Nat} {P : Program}
/-- An iterator that hands out N values, one behind the other. -/
def Gives (F : Fence) (n : Nat) (P : Program) (gf : Nat) (fb : Array Value) (N : Nat) (enc : Nat → Value) (Rd : World → Prop) : Prop :=
  ∀ (l : Nat) (J : Nat → World → Prop) (Jx : World → Prop) (W : World), (∀ i W', J i W' → Rd W') →
    (∀ i W', i < N → J i W' → YieldAt F (n - 1) P l #[enc i] W' fun e W'' => (e = .returned (.bool true) ∧ J (i + 1) W'') ∨ (e = .returned (.bool false) ∧ Jx W'')) →
    J 0 W → CallsIn F n P gf (fb ++ #[.func (.yield l) #[] #[]]) W fun e W' => (∃ v, e = .returned v) ∧ (J N W' ∨ Jx W')
theorem wpIn_rangeBound {g : Operand} {p : Tmp} {assign body : Code} {Q : Exit → Act → World → Prop} {a : Act} {w : World}
    (hro : F.round = none) (h1 : 1 ≤ n) {gf : Nat} {fb : Array Value} (hg : a.eval g = .func (.func gf) fb #[]) (hFg : F.fn gf) (eg : ∀ args w, (callFunc gf args).run P w = .ok (.enter gf args) w)
    {N : Nat} {enc : Nat → Value} {Rd : World → Prop} (hseq : Gives F (n - 1) P gf fb N enc Rd)
    (I : Nat → World → Prop) (Ix : World → Prop) (hI : ∀ i, Stays w.heap.size (I i)) (hIx : Stays w.heap.size Ix) (hRd : ∀ i W, I i W → Rd W) (h0 : I 0 w) (a₁ : Nat → Act)
    (hassign : ∀ (l : Nat) (i : Nat) (W : World) (K : Act → World → Prop), K (a₁ i) W →
      assign.wpIn (F.inRound l) (n - 1 - 1) P (Exit.then K (fun _ _ _ => False)) { tmps := a.tmps.setIfInBounds p (enc i), defers := [] } W)
    (hbody : ∀ (l : Nat) (i : Nat) (W : World), i < N → I i W → body.wpIn (F.inRound l) (n - 1 - 1) P (roundEnd w.heap.size (I (i + 1)) Ix W) (a₁ i) W)
    (hdone : ∀ (D : Nat) (W : World), w.heap.size ≤ D → I N W → W.heap[D]? = some (.deferred (some [])) → Q .normal { a with defers := { target := .collected D, args := #[] } :: a.defers } W)
    (hstop : ∀ (D : Nat) (W : World), w.heap.size ≤ D → Ix W → W.heap[D]? = some (.deferred (some [])) → Code.ret.wpIn F n P Q { a with defers := { target := .collected D, args := #[] } :: a.defers } W) :
    (Code.rangeFunc g #[p] assign body).wpIn F n P Q a w := by
  unfold Gives at hseq
  refine wpIn_rangeFunc ?_
  intro fn hfn
  rw [hro]
  obtain ⟨rec, hrec⟩ : ∃ rec : LoopState → Option Code → Loop, rec = fun st pe => { state := st, pending := pe, fn, tmps := a.tmps, params := #[p], assign, body, defers := w.heap.size } := ⟨_, rfl⟩
  obtain ⟨W1, hW1⟩ : ∃ W1, (w.alloc (.deferred (some []))).alloc (.loop (rec .ready none)) = W1 := ⟨_, rfl⟩
  have hL1 : W1.heap[w.heap.size + 1]? = some (.loop (rec .ready none)) := by
    rw [← hW1]; have := World.alloc_heap_new (w.alloc (.deferred (some []))) (.loop (rec .ready none)); rwa [World.size_alloc] at this
  have hK1 : W1.heap[w.heap.size]? = some (.deferred (some [])) := by
    rw [← hW1]; exact (Below.heap_alloc _ _ _ (by simp)).trans (World.alloc_heap_new w _)
  have hI1 : I 0 W1 := by rw [← hW1]; exact (hI 0).alloc _ ((hI 0).alloc _ h0)
  refine ⟨w.heap.size + 1, [{ target := .collected w.heap.size, args := #[] }], W1, { target := .fn (.func gf) #[], args := fb ++ #[.func (.yield (w.heap.size + 1)) #[] #[]] }, W1, gf,
    fb ++ #[.func (.yield (w.heap.size + 1)) #[] #[]], W1, ?_, ?_, ?_, ?_, fun _ => h1, ?_⟩
  · rw [← hW1, hrec]; exact run_enterLoop_outer _ _ _ _ _
  · simp only [resolve, hg]
    simp [go_sem]
  · intro f' hf'; simp [Target.leads] at hf'; subst hf'; exact hFg
  · simp [invoke, go_sem, eg]
  · refine (hseq (w.heap.size + 1)
      (fun i W => I i W ∧ W.heap[w.heap.size + 1]? = some (.loop (rec .ready none)) ∧ W.heap[w.heap.size]? = some (.deferred (some [])))
      (fun W => Ix W ∧ W.heap[w.heap.size + 1]? = some (.loop (rec .done (some .ret))) ∧ W.heap[w.heap.size]? = some (.deferred (some [])))
      W1 (fun i W' hj => hRd i W' hj.1) ?_ (And.intro hI1 (And.intro hL1 hK1))).mono ?_
    · rintro i W hlen ⟨hi, hl, hk⟩
      have hlt : w.heap.size + 1 < W.heap.size := (Array.getElem?_eq_some_iff.1 hl).1
      have hy := run_yield (P := P) (args := #[enc i]) hl (by rw [hrec]; rfl)
      rw [hrec] at hy
      refine ⟨fn, a.tmps.setIfInBounds p (enc i), assign, body, by simpa using hy, roundIn_of_wpIn hfn ?_⟩
      refine hassign _ i W _ ?_
      refine ⟨_, run_beginRound hl (by rw [hrec]), ?_⟩
      have hl2 : (W.putObj (w.heap.size + 1) (.loop { rec .ready none with state := .busy })).heap[w.heap.size + 1]? = some (.loop { rec .ready none with state := .busy }) := World.putObj_heap_same hlt
      have hk2 : (W.putObj (w.heap.size + 1) (.loop { rec .ready none with state := .busy })).heap[w.heap.size]? = some (.deferred (some [])) := (World.putObj_heap_other (by omega)).trans hk
      refine wpIn_mono (hbody _ i _ hlen ((hI i).putObj _ hi (by omega) hl rfl)) ?_
      have fin : ∀ (jump : Option Code) (W3 : World), KeepsFrom w.heap.size (W.putObj (w.heap.size + 1) (.loop { rec .ready none with state := .busy })) W3 →
          (Instr.endRound (w.heap.size + 1) jump).run P W3 = .ok (.bool jump.isNone) (W3.putObj (w.heap.size + 1) (.loop (rec (if jump.isNone then .ready else .done) jump))) ∧
          W3.heap[w.heap.size + 1]? = some (.loop { rec .ready none with state := .busy }) ∧
          (W3.putObj (w.heap.size + 1) (.loop (rec (if jump.isNone then .ready else .done) jump))).heap[w.heap.size + 1]? = some (.loop (rec (if jump.isNone then .ready else .done) jump)) ∧
          (W3.putObj (w.heap.size + 1) (.loop (rec (if jump.isNone then .ready else .done) jump))).heap[w.heap.size]? = some (.deferred (some [])) := fun jump W3 hk3 => by
        have hl3 := hk3.same _ _ (by omega) hl2 rfl
        have := run_endRound (P := P) jump hl3
        rw [hrec] at this ⊢
        exact ⟨this, by rw [hrec] at hl3; exact hl3, World.putObj_heap_same (Array.getElem?_eq_some_iff.1 hl3).1, (World.putObj_heap_other (by omega)).trans (hk3.same _ _ (Nat.le_refl _) hk2 rfl)⟩
      rintro e a3 W3 hp
      cases e with
      | normal =>
        obtain ⟨hk3, hi3⟩ := hp
        obtain ⟨hr, hl3, hl4, hk4⟩ := fin none W3 hk3
        exact ⟨_, _, hr, .inl ⟨rfl, (hI _).putObj _ hi3 (by omega) hl3 rfl, hl4, hk4⟩⟩
      | ret =>
        obtain ⟨hk3, hi3⟩ := hp
        obtain ⟨hr, hl3, hl4, hk4⟩ := fin (some .ret) W3 hk3
        exact ⟨_, _, hr, .inr ⟨rfl, hIx.putObj _ hi3 (by omega) hl3 rfl, hl4, hk4⟩⟩
      | exit id => exact hp.elim
      | goto t => exact hp.elim
      | panic ch => exact hp.elim
      | outgrown => exact hp.elim
    · rintro e W2 ⟨⟨v, rfl⟩, (⟨hi, hl, hk⟩ | ⟨hi, hl, hk⟩)⟩
      · exact ⟨none, _, by have := run_endLoop (P := P) hl (by rw [hrec]; simp); rw [hrec] at this; exact this, hdone _ _ (Nat.le_refl _) ((hI _).putObj _ hi (by omega) hl rfl) ((World.putObj_heap_other (by omega)).trans hk)⟩
      · exact ⟨some .ret, _, by have := run_endLoop (P := P) hl (by rw [hrec]; simp); rw [hrec] at this; exact this, hstop _ _ (Nat.le_refl _) (hIx.putObj _ hi (by omega) hl rfl) ((World.putObj_heap_other (by omega)).trans hk)⟩
end Go.Proofs.Ytdhgallfplbhpaa
