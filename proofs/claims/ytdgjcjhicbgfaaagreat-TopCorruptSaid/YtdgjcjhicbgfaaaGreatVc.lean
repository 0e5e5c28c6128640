/- What stands while frames are taken. Conditions: plain lemmas. -/
import Derived.Test.YtdgjcjhicbgfaaaGreatUe
import Derived.Test.YtdgjcjhicbgfaaaGreatVb
import Derived.Test.YtdgjcjhicbgfaaaGreatCx
import Derived.Deep.Slices
set_option linter.unusedVariables false
set_option linter.unusedSimpArgs false
set_option linter.unusedSimpArgs false
set_option linter.unusedVariables false
namespace Go.Proofs.YtdgjcjhicbgfaaaGreat
open Go.RowKit Go.Lib

/-- What has gone, frame by frame: when each ended, its texts. -/
def OutC (w : World) (ov : Value) (n : Nat) (Z : Nat → Int) (TA TB : Nat → ByteArray) (L : Nat → Prop) : Prop :=
  (n = 0 ∧ ov = .slice none 0 0) ∨ ∃ k off c, ov = .slice (some ⟨k, off, none⟩) n c ∧ ¬ L k ∧ k < w.heap.size ∧ ∀ i, i < n → w.cell? ⟨k, off + (i * 5 + 2), none⟩ = some (.int .i64 (Z i + (12500 * (i : Int) + 20))) ∧ w.cell? ⟨k, off + (i * 5 + 3), none⟩ = some (.string (TA i)) ∧ w.cell? ⟨k, off + (i * 5 + 4), none⟩ = some (.string (TB i))
theorem outs_choose {w : World} {ov : Value} {n : Nat} {S : Nat → ByteArray} {L : Nat → Prop} (h : OutsAt w ov ((List.range n).map S) L) : ∃ (Z : Nat → Int) (TA TB : Nat → ByteArray), OutC w ov n Z TA TB L ∧ ∀ i, i < n → (64 ≤ Z i ∧ Z i ≤ 147) ∧ Whole i (S i) (TA i) (TB i) := by
  rcases h with ⟨h1, h2⟩ | ⟨k, off, c, h1, h2, h3, h4⟩
  · have : n = 0 := by
      have := congrArg List.length h1
      simpa using this
    subst this
    exact ⟨fun _ => 0, fun _ => ⟨#[]⟩, fun _ => ⟨#[]⟩, .inl ⟨rfl, h2⟩, fun i hi => by omega⟩
  · have each : ∀ i, i < n → ∃ x : Int × ByteArray × ByteArray, ((64 ≤ x.1 ∧ x.1 ≤ 147) ∧ Whole i (S i) x.2.1 x.2.2) ∧ w.cell? ⟨k, off + (i * 5 + 2), none⟩ = some (.int .i64 (x.1 + (12500 * (i : Int) + 20))) ∧ w.cell? ⟨k, off + (i * 5 + 3), none⟩ = some (.string x.2.1) ∧ w.cell? ⟨k, off + (i * 5 + 4), none⟩ = some (.string x.2.2) := by
      intro i hi
      obtain ⟨z, ta, tb, g1, g2, g3, g4, g5⟩ := (h4 i (S i) (by simp [hi])).out
      exact ⟨(z, ta, tb), ⟨g1, g5⟩, g2, g3, g4⟩
    obtain ⟨F, hF⟩ := Go.Deep.choose_lt each
    refine ⟨fun i => (F i).1, fun i => (F i).2.1, fun i => (F i).2.2, .inr ⟨k, off, c, by simpa using h1, h2, h3, fun i hi => (hF i hi).2⟩, fun i hi => (hF i hi).1⟩
theorem OutC.keep {w w' : World} {ov : Value} {n : Nat} {Z : Nat → Int} {TA TB : Nat → ByteArray} {L L' : Nat → Prop} (h : OutC w ov n Z TA TB L) (hk : ∀ k, k < w.heap.size → ¬ L k → ov.ownBlock = some k → w'.heap[k]? = w.heap[k]?) (hs : w.heap.size ≤ w'.heap.size) (hl : ∀ k, k < w.heap.size → ¬ L k → ¬ L' k) : OutC w' ov n Z TA TB L' := by
  rcases h with h | ⟨k, off, c, rfl, h1, h2, h3⟩
  · exact .inl h
  · refine .inr ⟨k, off, c, rfl, hl k h2 h1, by omega, fun i hi => ?_⟩
    obtain ⟨g1, g2, g3⟩ := h3 i hi
    have e := hk k h2 h1 rfl
    exact ⟨(World.cell?_of_block e).trans g1, (World.cell?_of_block e).trans g2, (World.cell?_of_block e).trans g3⟩
theorem RecvAt.wide {base x k : Nat} {rv : Value} {L L' : Nat → Prop} {w : World} (h : RecvAt base x k rv L w) (hl : ∀ j, L j → L' j) : RecvAt base x k rv L' w := by
  obtain ⟨σ, ν, h1, r, ht, h2, h3⟩ := h.out
  exact ⟨σ, ν, h1, r, ht, h2, fun j hj => hl j (h3 j hj)⟩
/-- What a state of the receiver must bear. -/
structure Bears (R : (Nat → Prop) → World → Prop) : Prop where
  upon : ∀ (L S : Nat → Prop) (w w' : World), R L w → Upon S w w' → (∀ j, L j → ¬ S j) → R L w'
  narrow : ∀ (L L' : Nat → Prop) (w : World), R L w → (∀ j, L j → j < w.heap.size → L' j) → R L' w
theorem bears_recv {base x k : Nat} {rv : Value} : Bears (fun L w => RecvAt base x k rv L w) := by
  refine ⟨fun L S w w' h u hd => h.upon u hd, fun L L' w h hl => ?_⟩
  obtain ⟨σ, ν, h1, r, ht, h2, h3⟩ := h.out
  exact ⟨σ, ν, h1, r, ht, h2, fun j hj => hl j (h3 j hj) (r.live_lt hj)⟩
theorem bears_mid {base x k : Nat} {rv : Value} {z : Int} {s tb : ByteArray} : Bears (fun L w => Mid base x k rv z s tb L w) := by
  refine ⟨fun L S w w' h u hd => h.upon u hd, fun L L' w h hl => ?_⟩
  obtain ⟨σ6, σ7, ν, tk, m, b, h1, h2, r, ht, h3, h4, h5, h6, h7⟩ := h.out
  exact ⟨σ6, σ7, ν, tk, m, b, h1, h2, r, ht, h3, h4, h5, h6, fun j hj => hl j (h7 j hj) (r.live_lt hj)⟩
/-- All that stands: the receiver, what has gone, the row of texts. -/
structure TopAt (R : (Nat → Prop) → World → Prop) (B : Nat) (ov : Value) (n : Nat) (Z : Nat → Int) (TA TB : Nat → ByteArray) (gs : List ByteArray) (gv : Value) (w : World) : Prop where
  mk :: (out : ∃ L : Nat → Prop, R L w ∧ (∀ i, L i → B ≤ i) ∧ OutC w ov n Z TA TB L ∧ Got w gs gv ∧ B ≤ w.heap.size ∧ ∀ g, gv.ownBlock = some g → ¬ L g ∧ ov.ownBlock ≠ some g ∧ B ≤ g)
/-- What is new turns nothing of it. -/
theorem TopAt.grow {R : (Nat → Prop) → World → Prop} (hR : Bears R) {B : Nat} {ov gv : Value} {n : Nat} {Z : Nat → Int} {TA TB : Nat → ByteArray} {gs : List ByteArray} {w w' : World} (h : TopAt R B ov n Z TA TB gs gv w) (hb : Below w.heap.size w w') : TopAt R B ov n Z TA TB gs gv w' := by
  obtain ⟨L, h1, h2, h3, h4, h5, h6⟩ := h.out
  refine ⟨L, hR.upon L (fun _ => False) w w' h1 (Upon.of_below hb) (fun _ _ h => h), h2, h3.keep (fun k hk _ _ => hb.block k hk) hb.size (fun k _ h => h), h4.keep fun g hg => hb.block g (h4.lt hg), Nat.le_trans h5 hb.size, h6⟩
/-- The receiver's own steps. -/
theorem TopAt.step {R R' : (Nat → Prop) → World → Prop} {B : Nat} {ov gv : Value} {n : Nat} {Z : Nat → Int} {TA TB : Nat → ByteArray} {gs : List ByteArray} {w : World} (h : TopAt R B ov n Z TA TB gs gv w) {f : FuncId} {args : Array Value} {Q : Ending → Prop}
    (hcall : ∀ L : Nat → Prop, R L w → Calls Tryz.prog f args w fun e w' => Q e ∧ R' (grown L w) w' ∧ Upon L w w' ∧ Below B w w') :
    Calls Tryz.prog f args w fun e w' => Q e ∧ TopAt R' B ov n Z TA TB gs gv w' ∧ Below B w w' := by
  obtain ⟨L, h1, h2, h3, h4, h5, h6⟩ := h.out
  refine (hcall L h1).mono ?_
  rintro e w' ⟨hq, hr, hu, hb⟩
  refine ⟨hq, ⟨grown L w, hr, ?_, ?_, ?_, Nat.le_trans h5 hb.size, ?_⟩, hb⟩
  · rintro i (hi | hi)
    · exact h2 i hi
    · omega
  · refine h3.keep (fun k hk hn _ => hu.block k hk hn) hu.size ?_
    rintro k hk hn (h | h)
    · exact hn h
    · omega
  · exact h4.keep fun g hg => hu.block g (h4.lt hg) (h6 g hg).1
  · intro g hg
    obtain ⟨p1, p2, p3⟩ := h6 g hg
    refine ⟨?_, p2, p3⟩
    rintro (h | h)
    · exact p1 h
    · have := h4.lt hg; omega
/-- The row has grown. -/
theorem TopAt.put {R : (Nat → Prop) → World → Prop} (hR : Bears R) {B : Nat} {ov gv gv' : Value} {n : Nat} {Z : Nat → Int} {TA TB : Nat → ByteArray} {gs gs' : List ByteArray} {w w' : World} (h : TopAt R B ov n Z TA TB gs gv w) (hg : Got w' gs' gv') (hw : Grew w w' gv gv') : TopAt R B ov n Z TA TB gs' gv' w' := by
  obtain ⟨L, h1, h2, h3, h4, h5, h6⟩ := h.out
  have hLlt : ∀ k, ov.ownBlock = some k → k < w.heap.size := by
    intro k hk
    rcases h3 with ⟨_, rfl⟩ | ⟨k', off, c, rfl, _, hlt, _⟩
    · cases hk
    · cases hk; exact hlt
  refine ⟨fun j => L j ∧ gv'.ownBlock ≠ some j, ?_, fun i hi => h2 i hi.1, ?_, hg, Nat.le_trans h5 hw.upon.size, ?_⟩
  · refine hR.upon _ (fun j => gv.ownBlock = some j) w w' (hR.narrow L _ w h1 fun j hj hlt => ⟨hj, fun hgo => ?_⟩) hw.upon fun j hj hs => (h6 j hs).1 hj.1
    rcases hw.own j hgo with h | h
    · exact (h6 j h).1 hj
    · omega
  · refine h3.keep (fun k hk hn ho => hw.upon.block k hk (fun h => (h6 k h).2.1 ho)) hw.upon.size (fun k _ hn h => hn h.1)
  · intro g hgo
    refine ⟨fun h => h.2 hgo, fun ho => ?_, ?_⟩
    · rcases hw.own g hgo with h | h
      · exact (h6 g h).2.1 ho
      · have := hLlt g ho; omega
    · rcases hw.own g hgo with h | h
      · exact (h6 g h).2.2
      · omega
end Go.Proofs.YtdgjcjhicbgfaaaGreat
