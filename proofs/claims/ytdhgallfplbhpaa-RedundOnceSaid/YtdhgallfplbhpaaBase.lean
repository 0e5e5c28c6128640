/- Words of this seat's walks: a block of cells, what a call has turned, facts kept from the walk. Conditions: none; each is a plain lemma. -/
import Derived.Test.YtdhgallfplbhpaaProg
import Derived.Below
import Derived.OwnWalk
import Derived.WalkKit
import Derived.KernelRfl
import Derived.RowKit3
import Derived.Deep.LoopGhost
import Derived.Deep.QuietTactic
import Derived.BigQuiet
import Derived.BigRegion
import Derived.Deep.RegionWith
import Derived.RegionTactic
import Derived.Deep.DeepCutAuto
import Derived.Deep.CutBlock
import Derived.Deep.RegionHeld3
import Derived.Laws.Rows
import Derived.Laws.OwnMore
import Derived.IntWalk
import Derived.Test.YtdhgallfplbhpaaWWords
namespace Go.Proofs.Ytdhgallfplbhpaa
open Go.RowKit

theorem max2_int (k k' : IntKind) (x y : Int) : Builtin.max2 (.int k x) (.int k' y) = pure (.int k (if x < y then y else x)) := by simp only [Builtin.max2, gt_iff_lt]
theorem max_two (ats : Array TypeId) (ty : TypeId) (a b : Value) : Builtin.max_ ats ty #[a, b] = (Builtin.max2 a b >>= fun s => pure s) := by simp only [Builtin.max_, List.foldlM_cons, List.foldlM_nil]
theorem min2_int (k k' : IntKind) (x y : Int) : Builtin.min2 (.int k x) (.int k' y) = pure (.int k (if y < x then y else x)) := by simp only [Builtin.min2]
theorem min_two (ats : Array TypeId) (ty : TypeId) (a b : Value) : Builtin.min_ ats ty #[a, b] = (Builtin.min2 a b >>= fun s => pure s) := by simp only [Builtin.min_, List.foldlM_cons, List.foldlM_nil]

/-- A fact that the walk's simp doesn't look into. -/
structure Aside (p : Prop) : Prop where mk :: (out : p)

/-! ### A block of cells -/
def Blk (w : World) (g : Nat) (t : TypeId) (cs : Array Value) : Prop := w.heap[g]? = some (.cells cs t (0, 0))
theorem Blk.lt {w : World} {g : Nat} {t : TypeId} {cs : Array Value} (h : Blk w g t cs) : g < w.heap.size := (Array.getElem?_eq_some_iff.1 h).1
theorem Blk.cell {w : World} {g : Nat} {t : TypeId} {cs : Array Value} (h : Blk w g t cs) (i : Nat) : w.cell? ⟨g, i, none⟩ = cs[i]? := cell_of_row w g i cs t (0, 0) h
theorem Blk.frozen {w : World} {g : Nat} {t : TypeId} {cs : Array Value} (h : Blk w g t cs) (i : Nat) : w.frozen? ⟨g, i, none⟩ = false := by
  unfold Blk at h
  simp [World.frozen?, h]
theorem Blk.set {w : World} {g : Nat} {t : TypeId} {cs : Array Value} (h : Blk w g t cs) (i : Nat) (u : Value) : Blk (w.setCell ⟨g, i, none⟩ u) g t (cs.setIfInBounds i u) := by
  unfold Blk at *
  simp [World.setCell, Array.getElem?_modify, h]
theorem Blk.far {w : World} {g : Nat} {t : TypeId} {cs : Array Value} (h : Blk w g t cs) {p : Addr} (hp : g ≠ p.block) (u : Value) : Blk (w.setCell p u) g t cs := (Below.heap_setCell w p u g hp).trans h
theorem Blk.ne {w : World} {g g' : Nat} {t t' : TypeId} {cs cs' : Array Value} (h : Blk w g t cs) (h' : Blk w g' t' cs') (hne : t ≠ t') : g ≠ g' := by
  rintro rfl
  unfold Blk at *
  rw [h] at h'
  injection h' with h'
  injection h' with _ ht
  exact hne ht
theorem Blk.new (w : World) (t : TypeId) (cs : Array Value) : Blk (w.alloc (.cells cs t)) w.heap.size t cs := by
  show (w.heap.push _)[w.heap.size]? = _
  simp
theorem Blk.alloc {w : World} {g : Nat} {t : TypeId} {cs : Array Value} (h : Blk w g t cs) (o : Obj) : Blk (w.alloc o) g t cs := (Below.heap_alloc w o g h.lt).trans h
theorem Blk.drewN {w : World} {g : Nat} {t : TypeId} {cs : Array Value} (h : Blk w g t cs) (n : Nat) : Blk (w.drewN n) g t cs := h
theorem Blk.drew {w : World} {g : Nat} {t : TypeId} {cs : Array Value} (h : Blk w g t cs) : Blk w.drew g t cs := h

/-! ### What a call has turned: blocks of S alone, and new ones -/
structure Upon (S : Nat → Prop) (w w' : World) : Prop where
  os : w'.os = w.os
  tape : w'.tape = w.tape
  output : w'.output = w.output
  size : w.heap.size ≤ w'.heap.size
  block : ∀ k, k < w.heap.size → ¬ S k → w'.heap[k]? = w.heap[k]?
theorem Upon.refl (S : Nat → Prop) (w : World) : Upon S w w := ⟨rfl, rfl, rfl, Nat.le_refl _, fun _ _ _ => rfl⟩
theorem Upon.trans {S : Nat → Prop} {a b c : World} (h : Upon S a b) (k : Upon S b c) : Upon S a c :=
  ⟨k.os.trans h.os, k.tape.trans h.tape, k.output.trans h.output, Nat.le_trans h.size k.size, fun i hi hs => (k.block i (Nat.lt_of_lt_of_le hi h.size) hs).trans (h.block i hi hs)⟩
/-- Two steps, the second on its own set: what it turns was new, or is in the first one's. -/
theorem Upon.trans' {S T : Nat → Prop} {a b c : World} (h : Upon S a b) (k : Upon T b c) (hs : ∀ i, T i → S i ∨ a.heap.size ≤ i) : Upon S a c :=
  ⟨k.os.trans h.os, k.tape.trans h.tape, k.output.trans h.output, Nat.le_trans h.size k.size, fun i hi hS => (k.block i (Nat.lt_of_lt_of_le hi h.size) (fun ht => by rcases hs i ht with h1 | h1; exact hS h1; omega)).trans (h.block i hi hS)⟩
theorem Upon.mono {S T : Nat → Prop} {a b : World} (h : Upon S a b) (hs : ∀ i, S i → T i) : Upon T a b := ⟨h.os, h.tape, h.output, h.size, fun i hi ht => h.block i hi fun h1 => ht (hs i h1)⟩
theorem Upon.drew {S : Nat → Prop} {a w : World} (h : Upon S a w) : Upon S a w.drew := ⟨h.os, h.tape, h.output, h.size, h.block⟩
theorem Upon.drewN {S : Nat → Prop} {a w : World} (h : Upon S a w) (n : Nat) : Upon S a (w.drewN n) := ⟨h.os, h.tape, h.output, h.size, h.block⟩
theorem Upon.alloc {S : Nat → Prop} {a w : World} (h : Upon S a w) (o : Obj) : Upon S a (w.alloc o) :=
  h.trans ⟨rfl, rfl, rfl, by simp, fun k hk _ => Below.heap_alloc _ _ _ hk⟩
theorem Upon.set {S : Nat → Prop} {a w : World} (h : Upon S a w) (p : Addr) (u : Value) (hp : S p.block ∨ a.heap.size ≤ p.block) : Upon S a (w.setCell p u) :=
  h.trans' (T := (· = p.block)) ⟨rfl, rfl, rfl, by simp [World.setCell], fun k _ hk => Below.heap_setCell _ _ _ _ hk⟩ (fun i hi => by subst hi; exact hp)
theorem Upon.setg {S : Nat → Prop} {a w : World} {g : Nat} (h : Upon S a w) (hg : S g) (i : Nat) (u : Value) : Upon S a (w.setCell ⟨g, i, none⟩ u) := h.set ⟨g, i, none⟩ u (.inl hg)
theorem Upon.below {S : Nat → Prop} {a w : World} (h : Upon S a w) {B : Nat} (hB : B ≤ a.heap.size) (hs : ∀ i, S i → B ≤ i) : Below B a w :=
  ⟨h.os, h.tape, h.output, h.size, fun k hk => h.block k (by omega) (fun h1 => by have := hs k h1; omega)⟩
theorem Upon.of_below {S : Nat → Prop} {w w1 : World} (h : Below w.heap.size w w1) : Upon S w w1 := ⟨h.os, h.tape, h.output, h.size, fun k hk _ => h.block k hk⟩
theorem Upon.of_grown {S : Nat → Prop} {w w1 : World} {row : Option Nat} (h : w.grownBy w1 row) (hs : ∀ k, row = some k → S k) : Upon S w w1 :=
  ⟨h.os, h.tape, h.output, h.size, fun k hk hS => h.block k hk (fun e => hS (hs k e.symm))⟩
theorem Upon.blk {S : Nat → Prop} {w w1 : World} (h : Upon S w w1) {g : Nat} {t : TypeId} {cs : Array Value} (hb : Blk w g t cs) (hg : ¬ S g) : Blk w1 g t cs := (h.block g hb.lt hg).trans hb
theorem Upon.cell {S : Nat → Prop} {w w1 : World} (h : Upon S w w1) {p : Addr} {v : Value} (hc : w.cell? p = some v) (hg : ¬ S p.block) : w1.cell? p = some v :=
  (World.cell?_of_block (w := w) (h.block p.block (World.block_lt_of_cell? w p hc) hg)).trans hc
theorem below_then {B : Nat} {w w1 w2 : World} (h : Below B w w1) (hB : B ≤ w1.heap.size) (k : Below w1.heap.size w1 w2) : Below B w w2 :=
  h.trans ⟨k.os, k.tape, k.output, k.size, fun i hi => k.block i (Nat.lt_of_lt_of_le hi hB)⟩
theorem below_drewN {B : Nat} {w W : World} (h : Below B w W) (n : Nat) : Below B w (W.drewN n) := ⟨h.os, h.tape, h.output, h.size, h.block⟩
theorem below_cell {w w1 : World} (h : Below w.heap.size w w1) {a : Addr} {v : Value} (hc : w.cell? a = some v) : w1.cell? a = some v := (h.cell (World.block_lt_of_cell? w a hc)).trans hc

/-! ### A slice that came in, by an index function -/
def Sl {α : Type} (w : World) (a : Option Addr) (len sz : Nat) (Q : α → List Value → Prop) (L : Nat → α) : Prop :=
  len ≤ maxLen ∧ (0 < len → ∃ b off, a = some ⟨b, off, none⟩ ∧ ∀ i, i < len → ∃ cs, cs.length = sz ∧ Q (L i) cs ∧ ∀ j, j < sz → w.cell? ⟨b, off + (i * sz + j), none⟩ = cs[j]?)
def isInt (n : Int) (cs : List Value) : Prop := cs = [.int .i64 n] ∧ -9223372036854775808 ≤ n ∧ n ≤ 9223372036854775807
def isBool (b : Bool) (cs : List Value) : Prop := cs = [.bool b]
theorem Sl.ints {w : World} {a : Option Addr} {len : Nat} {L : Nat → Int} (h : Sl w a len 1 isInt L) : ∀ k, k < len → ∃ b off, a = some ⟨b, off, none⟩ ∧ w.cell? ⟨b, off + k, none⟩ = some (.int .i64 (L k)) ∧ -9223372036854775808 ≤ L k ∧ L k ≤ 9223372036854775807 := by
  intro k hk
  obtain ⟨b, off, ha, hx⟩ := h.2 (by omega)
  obtain ⟨cs, hl, ⟨rfl, h1, h2⟩, hc⟩ := hx k hk
  have := hc 0 (by omega)
  simp at this
  exact ⟨b, off, ha, this, h1, h2⟩
theorem Sl.bools {w : World} {a : Option Addr} {len : Nat} {L : Nat → Bool} (h : Sl w a len 1 isBool L) : ∀ k, k < len → ∃ b off, a = some ⟨b, off, none⟩ ∧ w.cell? ⟨b, off + k, none⟩ = some (.bool (L k)) := by
  intro k hk
  obtain ⟨b, off, ha, hx⟩ := h.2 (by omega)
  obtain ⟨cs, hl, rfl, hc⟩ := hx k hk
  have := hc 0 (by omega)
  simp at this
  exact ⟨b, off, ha, this⟩
end Go.Proofs.Ytdhgallfplbhpaa
