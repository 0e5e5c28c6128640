/- Words of the walks: blocks of cells, what a call has turned, what comes in, regions that draw, ranges over a bound method value. Conditions: those of each lemma, none else. -/
import Derived.Test.YtdgjcjhicbgfaaaGreatProg
import Derived.Below
import Derived.OwnWalk
import Derived.WalkKit
import Derived.KernelRfl
import Derived.RowKit3
import Derived.Deep.LoopGhost
import Derived.Deep.QuietTactic
import Derived.BigQuiet
import Derived.BigRegion
import Derived.Deep.RegionWith
import Derived.RegionTactic
import Derived.Deep.DeepCutAuto
import Derived.Deep.CutBlock
import Derived.Deep.RegionHeld3
import Derived.Laws.Rows
import Derived.Laws.OwnMore
import Derived.IntWalk
import Derived.ProofKit
import Derived.OpenShut
import Derived.ShutString
import Derived.ChangeOld
import Derived.SizedLaws
import Derived.Deep.Slices
import Derived.Lib.SmallJoins
import Derived.RangeFuncNested
import Derived.RangeFuncBound
import Derived.RangeFuncCalls
import Derived.RangeFuncLeaves
import Derived.Shelf.Abstract
import Derived.Shelf.RegionOpen
import Derived.OwnWalkIn
import Derived.TacticsInMore
import Derived.LoopNIn
import Derived.LoopIn
set_option linter.unusedVariables false
set_option linter.unusedSimpArgs false

/- Words of this seat's walks: a block of cells, what a call has turned, facts kept from the walk. Conditions: none; each is a plain lemma. -/
section
namespace Go.Proofs.YtdgjcjhicbgfaaaGreat
open Go.RowKit

theorem max2_int (k k' : IntKind) (x y : Int) : Builtin.max2 (.int k x) (.int k' y) = pure (.int k (if x < y then y else x)) := by simp only [Builtin.max2, gt_iff_lt]
theorem max_two (ats : Array TypeId) (ty : TypeId) (a b : Value) : Builtin.max_ ats ty #[a, b] = (Builtin.max2 a b >>= fun s => pure s) := by simp only [Builtin.max_, List.foldlM_cons, List.foldlM_nil]
theorem min2_int (k k' : IntKind) (x y : Int) : Builtin.min2 (.int k x) (.int k' y) = pure (.int k (if y < x then y else x)) := by simp only [Builtin.min2]
theorem min_two (ats : Array TypeId) (ty : TypeId) (a b : Value) : Builtin.min_ ats ty #[a, b] = (Builtin.min2 a b >>= fun s => pure s) := by simp only [Builtin.min_, List.foldlM_cons, List.foldlM_nil]

/-- A fact that the walk's simp doesn't look into. -/
structure Aside (p : Prop) : Prop where mk :: (out : p)

/-! ### A block of cells -/
def Blk (w : World) (g : Nat) (t : TypeId) (cs : Array Value) : Prop := w.heap[g]? = some (.cells cs t (0, 0))
theorem Blk.lt {w : World} {g : Nat} {t : TypeId} {cs : Array Value} (h : Blk w g t cs) : g < w.heap.size := (Array.getElem?_eq_some_iff.1 h).1
theorem Blk.cell {w : World} {g : Nat} {t : TypeId} {cs : Array Value} (h : Blk w g t cs) (i : Nat) : w.cell? ⟨g, i, none⟩ = cs[i]? := cell_of_row w g i cs t (0, 0) h
theorem Blk.frozen {w : World} {g : Nat} {t : TypeId} {cs : Array Value} (h : Blk w g t cs) (i : Nat) : w.frozen? ⟨g, i, none⟩ = false := by
  unfold Blk at h
  simp [World.frozen?, h]
theorem Blk.set {w : World} {g : Nat} {t : TypeId} {cs : Array Value} (h : Blk w g t cs) (i : Nat) (u : Value) : Blk (w.setCell ⟨g, i, none⟩ u) g t (cs.setIfInBounds i u) := by
  unfold Blk at *
  simp [World.setCell, Array.getElem?_modify, h]
theorem Blk.far {w : World} {g : Nat} {t : TypeId} {cs : Array Value} (h : Blk w g t cs) {p : Addr} (hp : g ≠ p.block) (u : Value) : Blk (w.setCell p u) g t cs := (Below.heap_setCell w p u g hp).trans h
theorem Blk.ne {w : World} {g g' : Nat} {t t' : TypeId} {cs cs' : Array Value} (h : Blk w g t cs) (h' : Blk w g' t' cs') (hne : t ≠ t') : g ≠ g' := by
  rintro rfl
  unfold Blk at *
  rw [h] at h'
  injection h' with h'
  injection h' with _ ht
  exact hne ht
theorem Blk.new (w : World) (t : TypeId) (cs : Array Value) : Blk (w.alloc (.cells cs t)) w.heap.size t cs := by
  show (w.heap.push _)[w.heap.size]? = _
  simp
theorem Blk.alloc {w : World} {g : Nat} {t : TypeId} {cs : Array Value} (h : Blk w g t cs) (o : Obj) : Blk (w.alloc o) g t cs := (Below.heap_alloc w o g h.lt).trans h
theorem Blk.drewN {w : World} {g : Nat} {t : TypeId} {cs : Array Value} (h : Blk w g t cs) (n : Nat) : Blk (w.drewN n) g t cs := h
theorem Blk.drew {w : World} {g : Nat} {t : TypeId} {cs : Array Value} (h : Blk w g t cs) : Blk w.drew g t cs := h

/-! ### What a call has turned: blocks of S alone, and new ones -/
structure Upon (S : Nat → Prop) (w w' : World) : Prop where
  os : w'.os = w.os
  tape : w'.tape = w.tape
  output : w'.output = w.output
  size : w.heap.size ≤ w'.heap.size
  block : ∀ k, k < w.heap.size → ¬ S k → w'.heap[k]? = w.heap[k]?
theorem Upon.refl (S : Nat → Prop) (w : World) : Upon S w w := ⟨rfl, rfl, rfl, Nat.le_refl _, fun _ _ _ => rfl⟩
theorem Upon.trans {S : Nat → Prop} {a b c : World} (h : Upon S a b) (k : Upon S b c) : Upon S a c :=
  ⟨k.os.trans h.os, k.tape.trans h.tape, k.output.trans h.output, Nat.le_trans h.size k.size, fun i hi hs => (k.block i (Nat.lt_of_lt_of_le hi h.size) hs).trans (h.block i hi hs)⟩
/-- Two steps, the second on its own set: what it turns was new, or is in the first one's. -/
theorem Upon.trans' {S T : Nat → Prop} {a b c : World} (h : Upon S a b) (k : Upon T b c) (hs : ∀ i, T i → S i ∨ a.heap.size ≤ i) : Upon S a c :=
  ⟨k.os.trans h.os, k.tape.trans h.tape, k.output.trans h.output, Nat.le_trans h.size k.size, fun i hi hS => (k.block i (Nat.lt_of_lt_of_le hi h.size) (fun ht => by rcases hs i ht with h1 | h1; exact hS h1; omega)).trans (h.block i hi hS)⟩
theorem Upon.mono {S T : Nat → Prop} {a b : World} (h : Upon S a b) (hs : ∀ i, S i → T i) : Upon T a b := ⟨h.os, h.tape, h.output, h.size, fun i hi ht => h.block i hi fun h1 => ht (hs i h1)⟩
theorem Upon.drew {S : Nat → Prop} {a w : World} (h : Upon S a w) : Upon S a w.drew := ⟨h.os, h.tape, h.output, h.size, h.block⟩
theorem Upon.drewN {S : Nat → Prop} {a w : World} (h : Upon S a w) (n : Nat) : Upon S a (w.drewN n) := ⟨h.os, h.tape, h.output, h.size, h.block⟩
theorem Upon.alloc {S : Nat → Prop} {a w : World} (h : Upon S a w) (o : Obj) : Upon S a (w.alloc o) :=
  h.trans ⟨rfl, rfl, rfl, by simp, fun k hk _ => Below.heap_alloc _ _ _ hk⟩
theorem Upon.set {S : Nat → Prop} {a w : World} (h : Upon S a w) (p : Addr) (u : Value) (hp : S p.block ∨ a.heap.size ≤ p.block) : Upon S a (w.setCell p u) :=
  h.trans' (T := (· = p.block)) ⟨rfl, rfl, rfl, by simp [World.setCell], fun k _ hk => Below.heap_setCell _ _ _ _ hk⟩ (fun i hi => by subst hi; exact hp)
theorem Upon.setg {S : Nat → Prop} {a w : World} {g : Nat} (h : Upon S a w) (hg : S g) (i : Nat) (u : Value) : Upon S a (w.setCell ⟨g, i, none⟩ u) := h.set ⟨g, i, none⟩ u (.inl hg)
theorem Upon.below {S : Nat → Prop} {a w : World} (h : Upon S a w) {B : Nat} (hB : B ≤ a.heap.size) (hs : ∀ i, S i → B ≤ i) : Below B a w :=
  ⟨h.os, h.tape, h.output, h.size, fun k hk => h.block k (by omega) (fun h1 => by have := hs k h1; omega)⟩
theorem Upon.of_below {S : Nat → Prop} {w w1 : World} (h : Below w.heap.size w w1) : Upon S w w1 := ⟨h.os, h.tape, h.output, h.size, fun k hk _ => h.block k hk⟩
theorem Upon.of_grown {S : Nat → Prop} {w w1 : World} {row : Option Nat} (h : w.grownBy w1 row) (hs : ∀ k, row = some k → S k) : Upon S w w1 :=
  ⟨h.os, h.tape, h.output, h.size, fun k hk hS => h.block k hk (fun e => hS (hs k e.symm))⟩
theorem Upon.blk {S : Nat → Prop} {w w1 : World} (h : Upon S w w1) {g : Nat} {t : TypeId} {cs : Array Value} (hb : Blk w g t cs) (hg : ¬ S g) : Blk w1 g t cs := (h.block g hb.lt hg).trans hb
theorem Upon.cell {S : Nat → Prop} {w w1 : World} (h : Upon S w w1) {p : Addr} {v : Value} (hc : w.cell? p = some v) (hg : ¬ S p.block) : w1.cell? p = some v :=
  (World.cell?_of_block (w := w) (h.block p.block (World.block_lt_of_cell? w p hc) hg)).trans hc
theorem below_then {B : Nat} {w w1 w2 : World} (h : Below B w w1) (hB : B ≤ w1.heap.size) (k : Below w1.heap.size w1 w2) : Below B w w2 :=
  h.trans ⟨k.os, k.tape, k.output, k.size, fun i hi => k.block i (Nat.lt_of_lt_of_le hi hB)⟩
theorem below_drewN {B : Nat} {w W : World} (h : Below B w W) (n : Nat) : Below B w (W.drewN n) := ⟨h.os, h.tape, h.output, h.size, h.block⟩
theorem below_cell {w w1 : World} (h : Below w.heap.size w w1) {a : Addr} {v : Value} (hc : w.cell? a = some v) : w1.cell? a = some v := (h.cell (World.block_lt_of_cell? w a hc)).trans hc

/-! ### A slice that came in, by an index function -/
def Sl {α : Type} (w : World) (a : Option Addr) (len sz : Nat) (Q : α → List Value → Prop) (L : Nat → α) : Prop :=
  len ≤ maxLen ∧ (0 < len → ∃ b off, a = some ⟨b, off, none⟩ ∧ ∀ i, i < len → ∃ cs, cs.length = sz ∧ Q (L i) cs ∧ ∀ j, j < sz → w.cell? ⟨b, off + (i * sz + j), none⟩ = cs[j]?)
def isInt (n : Int) (cs : List Value) : Prop := cs = [.int .i64 n] ∧ -9223372036854775808 ≤ n ∧ n ≤ 9223372036854775807
def isBool (b : Bool) (cs : List Value) : Prop := cs = [.bool b]
theorem Sl.ints {w : World} {a : Option Addr} {len : Nat} {L : Nat → Int} (h : Sl w a len 1 isInt L) : ∀ k, k < len → ∃ b off, a = some ⟨b, off, none⟩ ∧ w.cell? ⟨b, off + k, none⟩ = some (.int .i64 (L k)) ∧ -9223372036854775808 ≤ L k ∧ L k ≤ 9223372036854775807 := by
  intro k hk
  obtain ⟨b, off, ha, hx⟩ := h.2 (by omega)
  obtain ⟨cs, hl, ⟨rfl, h1, h2⟩, hc⟩ := hx k hk
  have := hc 0 (by omega)
  simp at this
  exact ⟨b, off, ha, this, h1, h2⟩
theorem Sl.bools {w : World} {a : Option Addr} {len : Nat} {L : Nat → Bool} (h : Sl w a len 1 isBool L) : ∀ k, k < len → ∃ b off, a = some ⟨b, off, none⟩ ∧ w.cell? ⟨b, off + k, none⟩ = some (.bool (L k)) := by
  intro k hk
  obtain ⟨b, off, ha, hx⟩ := h.2 (by omega)
  obtain ⟨cs, hl, rfl, hc⟩ := hx k hk
  have := hc 0 (by omega)
  simp at this
  exact ⟨b, off, ha, this⟩
end Go.Proofs.YtdgjcjhicbgfaaaGreat
end

/- What an argument that reads as data is made of: whole numbers, bools, strings, structs, arrays, and slices of these, to the bottom. Conditions: that it reads. -/
section
namespace Go.Proofs.YtdgjcjhicbgfaaaGreat
open Go.RowKit Go.ChangeShapes Go.WideShapes

/-- These cells read by this type. -/
def Reads (P : Program) (W : World) (t : TypeId) (cs : List Value) : Prop := ∃ (H : Type) (enc : TypeId × Value → H) (base : Nat) (spare : Nat → Bool) (held : Bool) (n : Nat) (x : DataW H × List MemPlace), DataW.trod enc P W base spare held n t cs = some x
section
variable {P : Program} {W : World} {t e : TypeId} {cs : List Value}
theorem reads_of {H : Type} {enc : TypeId × Value → H} {base : Nat} {spare : Nat → Bool} {held : Bool} {v : Value} {d : DataW H} {p : List MemPlace} (h : DataW.Trod enc P W base spare held t v d p) : Reads P W t v.cells.toList := by
  obtain ⟨n, hn⟩ := h
  exact ⟨H, enc, base, spare, held, n, _, hn⟩
theorem reads_int {k : IntKind} (ht : P.underlying t = some (.int k)) (h : Reads P W t cs) : ∃ n, cs = [.int k n] ∧ (Lit.int k n).wf = true := by
  obtain ⟨H, enc, base, spare, held, n, x, h⟩ := h
  obtain ⟨m, h1, _, h3⟩ := DataW.trod_int ht h
  exact ⟨m, h1, h3⟩
theorem reads_bool (ht : P.underlying t = some .bool) (h : Reads P W t cs) : ∃ b, cs = [.bool b] := by
  obtain ⟨H, enc, base, spare, held, n, x, h⟩ := h
  obtain ⟨m, h1, _⟩ := DataW.trod_bool ht h
  exact ⟨m, h1⟩
theorem reads_string (ht : P.underlying t = some .string) (h : Reads P W t cs) : ∃ s : ByteArray, cs = [.string s] ∧ s.size ≤ maxLen := by
  obtain ⟨H, enc, base, spare, held, n, x, h⟩ := h
  obtain ⟨m, h1, _, h3⟩ := DataW.trod_string ht h
  exact ⟨m, h1, h3⟩
theorem reads_struct {fs : Array Field} (ht : P.underlying t = some (.struct fs)) (h : Reads P W t cs) : cs.length = P.cellsOf t ∧ ∀ (i : Nat) (f : Field), fs[i]? = some f → Reads P W f.type ((cs.drop f.offset).take (P.cellsOf f.type)) := by
  obtain ⟨H, enc, base, spare, held, n, x, h⟩ := h
  obtain ⟨xs, m, _, _, hl, hx, hf⟩ := DataW.trod_struct ht h
  refine ⟨hl, fun i f hi => ?_⟩
  have h1 := hf i f hi
  have hlt : i < xs.length := by rw [hx]; exact (Array.getElem?_eq_some_iff.1 hi).1
  rw [List.getElem?_eq_getElem hlt] at h1
  exact ⟨H, enc, base, spare, held, m, _, h1⟩
theorem reads_array {n : Nat} (ht : P.underlying t = some (.array n e)) (h : Reads P W t cs) : cs.length = P.cellsOf t ∧ ∀ i, i < n → Reads P W e ((cs.drop (i * P.cellsOf e)).take (P.cellsOf e)) := by
  obtain ⟨H, enc, base, spare, held, fu, x, h⟩ := h
  obtain ⟨xs, m, _, _, hl, hx, hf⟩ := DataW.trod_array ht h
  refine ⟨hl, fun i hi => ?_⟩
  have h1 := hf i hi
  rw [List.getElem?_eq_getElem (by omega)] at h1
  exact ⟨H, enc, base, spare, held, m, _, h1⟩
theorem reads_slice (ht : P.underlying t = some (.slice e)) (h : Reads P W t cs) : ∃ a len cap, cs = [.slice a len cap] ∧ len ≤ maxLen ∧ (0 < len → ∃ ad, a = some ad ∧ ∀ i, i < len → ∃ base cs', W.cells? base (ad.add (i * P.cellsOf e)) (P.cellsOf e) = some cs' ∧ Reads P W e cs') := by
  obtain ⟨H, enc, base, spare, held, fu, x, h⟩ := h
  rcases Deep.open_slice ht h with ⟨rfl, _⟩ | ⟨a, len, cap, m, n, D, Pl, rfl, _, hl, hm, hmm, _, hx⟩
  · exact ⟨none, 0, 0, rfl, Nat.zero_le _, fun h0 => absurd h0 (Nat.lt_irrefl _)⟩
  · refine ⟨some a, len, cap, rfl, by omega, fun _ => ⟨a, rfl, fun i hi => ?_⟩⟩
    have hle : len ≤ m := by rw [hmm]; split <;> omega
    obtain ⟨cs', h1, h2⟩ := hx i (by omega)
    exact ⟨base, cs', h1, H, enc, base, spare, held, n, _, h2⟩
/-- A slice by an index function: each element's cells, and what is told of them. -/
theorem sl_of {α : Type} [Inhabited α] {Q : α → List Value → Prop} {sz : Nat} (ht : P.underlying t = some (.slice e)) (hsz : P.cellsOf e = sz) (h0 : 0 < sz) (dec : ∀ cs, Reads P W e cs → ∃ y, Q y cs) (h : Reads P W t cs) :
    ∃ a len cap L, cs = [.slice a len cap] ∧ Sl W a len sz Q L := by
  obtain ⟨a, len, cap, rfl, hl, hx⟩ := reads_slice ht h
  by_cases hn : 0 < len
  · obtain ⟨ad, ha, hy⟩ := hx hn
    subst ha
    have each : ∀ i, i < len → ∃ y : α, ∃ cs : List Value, cs.length = sz ∧ Q y cs ∧ ∀ j, j < sz → W.cell? (ad.add (i * sz + j)) = cs[j]? := by
      intro i hi
      obtain ⟨b, cs', h1, h2⟩ := hy i hi
      rw [hsz] at h1
      obtain ⟨_, h3, h4⟩ := World.cells?_some h1
      obtain ⟨y, hy⟩ := dec cs' h2
      exact ⟨y, cs', h3, hy, fun j hj => by rw [← h4 j hj, Deep.add_add]⟩
    obtain ⟨L, hL⟩ := Deep.choose_lt each
    obtain ⟨b, off, spot⟩ := ad
    have hspot : spot = none := by
      obtain ⟨cs, hc, _, hz⟩ := hL 0 hn
      have hz0 := hz 0 h0
      rw [List.getElem?_eq_getElem (by omega)] at hz0
      simpa [Addr.add] using World.cell?_spot hz0
    subst hspot
    refine ⟨some ⟨b, off, none⟩, len, cap, L, rfl, hl, fun _ => ⟨b, off, rfl, fun i hi => ?_⟩⟩
    obtain ⟨cs, h1, h2, h3⟩ := hL i hi
    exact ⟨cs, h1, h2, fun j hj => by rw [← h3 j hj, Go.WideShapes.add_plain]⟩
  · exact ⟨a, len, cap, fun _ => default, rfl, hl, fun h => absurd h hn⟩
end
theorem wf_i64 {n : Int} (h : (Lit.int .i64 n).wf = true) : -9223372036854775808 ≤ n ∧ n ≤ 9223372036854775807 := Go.bounds_i64 h
/-- An element that is an int. -/
theorem dec_int {P : Program} {W : World} {t : TypeId} {cs : List Value} (ht : P.underlying t = some (.int .i64)) (h : Reads P W t cs) : ∃ n, isInt n cs := by
  obtain ⟨n, h1, h2⟩ := reads_int ht h
  exact ⟨n, h1, wf_i64 h2⟩
/-- An array of two ints. -/
theorem arr2_of {P : Program} {W : World} {t e : TypeId} {cs : Array Value} (ht : P.underlying t = some (.array 2 e)) (he : P.underlying e = some (.int .i64)) (hc : P.cellsOf e = 1) (hc2 : P.cellsOf t = 2) (hz : cs.size = P.cellsOf t) (h : Reads P W t (Value.agg cs).cells.toList) :
    ∃ x y : Int, cs = #[.int .i64 x, .int .i64 y] ∧ (-9223372036854775808 ≤ x ∧ x ≤ 9223372036854775807) ∧ (-9223372036854775808 ≤ y ∧ y ≤ 9223372036854775807) := by
  obtain ⟨_, hx⟩ := reads_array ht h
  rw [hc2] at hz
  obtain ⟨c0, c1, rfl⟩ := Joins.array2 hz
  have h0 := hx 0 (by omega)
  have h1 := hx 1 (by omega)
  simp [hc, Value.cells] at h0 h1
  obtain ⟨x, e0, w0⟩ := reads_int he h0
  obtain ⟨y, e1, w1⟩ := reads_int he h1
  simp at e0 e1
  subst e0 e1
  exact ⟨x, y, rfl, wf_i64 w0, wf_i64 w1⟩
/-- A struct's field of one cell that reads as an int. -/
theorem field_int {P : Program} {W : World} {t : TypeId} {cs : List Value} {fs : Array Field} (ht : P.underlying t = some (.struct fs)) (h : Reads P W t cs) (i : Nat) (f : Field) (hf : fs[i]? = some f) (hc : P.cellsOf f.type = 1) (hu : P.underlying f.type = some (.int .i64)) : ∃ n : Int, (cs.drop f.offset).take 1 = [.int .i64 n] ∧ -9223372036854775808 ≤ n ∧ n ≤ 9223372036854775807 := by
  have h1 := (reads_struct ht h).2 i f hf
  rw [hc] at h1
  obtain ⟨n, h2, h3⟩ := reads_int hu h1
  exact ⟨n, h2, wf_i64 h3⟩
theorem field_bool {P : Program} {W : World} {t : TypeId} {cs : List Value} {fs : Array Field} (ht : P.underlying t = some (.struct fs)) (h : Reads P W t cs) (i : Nat) (f : Field) (hf : fs[i]? = some f) (hc : P.cellsOf f.type = 1) (hu : P.underlying f.type = some .bool) : ∃ b : Bool, (cs.drop f.offset).take 1 = [.bool b] := by
  have h1 := (reads_struct ht h).2 i f hf
  rw [hc] at h1
  exact reads_bool hu h1
theorem one_cell {cs : List Value} {o : Nat} {v : Value} (h : (cs.drop o).take 1 = [v]) : cs[o]? = some v := by
  have h0 : ((cs.drop o).take 1)[0]? = some v := by rw [h]; rfl
  simpa using h0
theorem list2 {cs : List Value} {a b : Value} (hl : cs.length = 2) (h0 : cs[0]? = some a) (h1 : cs[1]? = some b) : cs = [a, b] := by
  match cs, hl with
  | [x, y], _ => simp at h0 h1; rw [h0, h1]
theorem list3 {cs : List Value} {a b c : Value} (hl : cs.length = 3) (h0 : cs[0]? = some a) (h1 : cs[1]? = some b) (h2 : cs[2]? = some c) : cs = [a, b, c] := by
  match cs, hl with
  | [x, y, z], _ => simp at h0 h1 h2; rw [h0, h1, h2]
theorem list4 {cs : List Value} {a b c d : Value} (hl : cs.length = 4) (h0 : cs[0]? = some a) (h1 : cs[1]? = some b) (h2 : cs[2]? = some c) (h3 : cs[3]? = some d) : cs = [a, b, c, d] := by
  match cs, hl with
  | [x, y, z, u], _ => simp at h0 h1 h2 h3; rw [h0, h1, h2, h3]
theorem dec_bool {P : Program} {W : World} {t : TypeId} {cs : List Value} (ht : P.underlying t = some .bool) (h : Reads P W t cs) : ∃ b, isBool b cs := reads_bool ht h
end Go.Proofs.YtdgjcjhicbgfaaaGreat
end

/- A region that draws its order, whose operations read and whose callees make memory and turn nothing old: walked once. Conditions: plain lemmas. -/
section
namespace Go.Proofs.YtdgjcjhicbgfaaaGreat
open Go.RowKit
/-- A world in which all that stood in W stands. -/
def Cls (W : World) : Type := { w : World // Below W.heap.size W w }
instance (W : World) : Nonempty (Cls W) := ⟨⟨W, Below.refl _ _⟩⟩
def Cls.at_ {W : World} (x : Cls W) : World := x.1
theorem Cls.below {W : World} (x : Cls W) : Below W.heap.size W x.at_ := x.2
theorem Cls.cell {W : World} {a : Addr} {v : Value} (h : W.cell? a = some v) (x : Cls W) : x.at_.cell? a = some v := below_cell x.2 h
theorem Cls.then {W : World} (x : Cls W) {w : World} (h : Below x.at_.heap.size x.at_ w) : ∃ y : Cls W, w = y.at_ := ⟨⟨w, below_then x.2 x.2.size h⟩, rfl⟩
theorem Cls.drewN {W : World} (x : Cls W) (n : Nat) : ∃ y : Cls W, x.at_.drewN n = y.at_ := ⟨⟨_, below_drewN x.2 n⟩, rfl⟩
/-- A callee's contract, met in such a world. -/
theorem Cls.calls {P : Program} {f : FuncId} {args : Array Value} {W : World} (x : Cls W) {v : Value} (h : Calls P f args x.at_ fun e w' => e = .returned v ∧ Below x.at_.heap.size x.at_ w') : Calls P f args x.at_ fun e w' => e = .returned v ∧ ∃ y : Cls W, w' = y.at_ :=
  h.mono fun _ _ ⟨he, hb⟩ => ⟨he, x.then hb⟩
theorem Cls.calls_same {P : Program} {f : FuncId} {args : Array Value} {W : World} (x : Cls W) {v : Value} (h : Calls P f args x.at_ fun e w' => e = .returned v ∧ x.at_ = w') : Calls P f args x.at_ fun e w' => e = .returned v ∧ ∃ y : Cls W, w' = y.at_ :=
  h.mono fun _ _ ⟨he, hb⟩ => ⟨he, x, hb.symm⟩
theorem Cls.calls_drew {P : Program} {f : FuncId} {args : Array Value} {W : World} (x : Cls W) {v : Value} (h : Calls P f args x.at_ fun e w' => e = .returned v ∧ ∃ n, w' = x.at_.drewN n) : Calls P f args x.at_ fun e w' => e = .returned v ∧ ∃ y : Cls W, w' = y.at_ :=
  h.mono fun _ _ ⟨he, n, hb⟩ => ⟨he, by rw [hb]; exact x.drewN n⟩
theorem region_cls {P : Program} {l : List Oper} {id : Nat} {Q : Exit → Act → World → Prop} {a : Act} {W : World} (hm : P.follows .mixedOrders = true) (hB : Region.lexB .any l.toArray = true)
    (h : wpQuiet P l.toArray (fun w' => ∃ x : Cls W, w' = x.at_) (fun a' => ∀ w', (∃ x : Cls W, w' = x.at_) → Q .normal a' w') l a) : (Code.region id l.toArray true).wp P Q a W :=
  wp_region_quiet (C := fun w' => ∃ x : Cls W, w' = x.at_) hm hB ⟨⟨W.drew, (Below.refl _ _).drew⟩, rfl⟩ (by simpa using h)
end Go.Proofs.YtdgjcjhicbgfaaaGreat
end

/- A range over a method value that is bound to its receiver: the law of the statement, by an index. Conditions: plain lemmas. -/
section
namespace Go.Proofs.YtdgjcjhicbgfaaaGreat
open Go.RowKit Go.Shelf
set_option linter.unusedVariables false

/-- What does not mind new blocks, nor a turn of a block from B on that holds no cells. -/
def Stays (B : Nat) (I : World → Prop) : Prop :=
  ∀ W W' : World, I W → W'.os = W.os → W'.tape = W.tape → W'.output = W.output → W.heap.size ≤ W'.heap.size → (∀ k o, W.heap[k]? = some o → (k < B ∨ o.isCells = true) → W'.heap[k]? = some o) → I W'
theorem Stays.alloc {B : Nat} {I : World → Prop} (h : Stays B I) {W : World} (o : Obj) (hi : I W) : I (W.alloc o) :=
  h W _ hi rfl rfl rfl (by simp) fun k o' hk _ => (Below.heap_alloc W o k (Array.getElem?_eq_some_iff.1 hk).1).trans hk
theorem Stays.putObj {B : Nat} {I : World → Prop} (h : Stays B I) {W : World} {l : Nat} {o : Obj} (o' : Obj) (hi : I W) (hB : B ≤ l) (hl : W.heap[l]? = some o) (hc : o.isCells = false) : I (W.putObj l o') :=
  h W _ hi rfl rfl rfl (by simp) fun k o'' hk hor => by
    by_cases e : k = l
    · subst e
      rw [hl] at hk
      cases hk
      rcases hor with h1 | h1
      · omega
      · rw [hc] at h1; cases h1
    · exact (World.putObj_heap_other e).trans hk
/-- How the body of a round may be left. -/
def roundEnd (B : Nat) (I : World → Prop) (Ix : World → Prop) (W : World) : Exit → Act → World → Prop
  | .normal, _, W' => KeepsFrom B W W' ∧ I W'
  | .ret, _, W' => KeepsFrom B W W' ∧ Ix W'
  | _, _, _ => False
variable {F : Fence} {n : Nat} {P : Program}
/-- An iterator that hands out N values, one behind the other. -/
def Gives (F : Fence) (n : Nat) (P : Program) (gf : Nat) (fb : Array Value) (N : Nat) (enc : Nat → Value) (Rd : World → Prop) : Prop :=
  ∀ (l : Nat) (J : Nat → World → Prop) (Jx : World → Prop) (W : World), (∀ i W', J i W' → Rd W') →
    (∀ i W', i < N → J i W' → YieldAt F (n - 1) P l #[enc i] W' fun e W'' => (e = .returned (.bool true) ∧ J (i + 1) W'') ∨ (e = .returned (.bool false) ∧ Jx W'')) →
    J 0 W → CallsIn F n P gf (fb ++ #[.func (.yield l) #[] #[]]) W fun e W' => (∃ v, e = .returned v) ∧ (J N W' ∨ Jx W')
theorem wpIn_rangeBound {g : Operand} {p : Tmp} {assign body : Code} {Q : Exit → Act → World → Prop} {a : Act} {w : World}
    (hro : F.round = none) (h1 : 1 ≤ n) {gf : Nat} {fb : Array Value} (hg : a.eval g = .func (.func gf) fb #[]) (hFg : F.fn gf) (eg : ∀ args w, (callFunc gf args).run P w = .ok (.enter gf args) w)
    {N : Nat} {enc : Nat → Value} {Rd : World → Prop} (hseq : Gives F (n - 1) P gf fb N enc Rd)
    (I : Nat → World → Prop) (Ix : World → Prop) (hI : ∀ i, Stays w.heap.size (I i)) (hIx : Stays w.heap.size Ix) (hRd : ∀ i W, I i W → Rd W) (h0 : I 0 w) (a₁ : Nat → Act)
    (hassign : ∀ (l : Nat) (i : Nat) (W : World) (K : Act → World → Prop), K (a₁ i) W →
      assign.wpIn (F.inRound l) (n - 1 - 1) P (Exit.then K (fun _ _ _ => False)) { tmps := a.tmps.setIfInBounds p (enc i), defers := [] } W)
    (hbody : ∀ (l : Nat) (i : Nat) (W : World), i < N → I i W → body.wpIn (F.inRound l) (n - 1 - 1) P (roundEnd w.heap.size (I (i + 1)) Ix W) (a₁ i) W)
    (hdone : ∀ (D : Nat) (W : World), w.heap.size ≤ D → I N W → W.heap[D]? = some (.deferred (some [])) → Q .normal { a with defers := { target := .collected D, args := #[] } :: a.defers } W)
    (hstop : ∀ (D : Nat) (W : World), w.heap.size ≤ D → Ix W → W.heap[D]? = some (.deferred (some [])) → Code.ret.wpIn F n P Q { a with defers := { target := .collected D, args := #[] } :: a.defers } W) :
    (Code.rangeFunc g #[p] assign body).wpIn F n P Q a w := by
  unfold Gives at hseq
  refine wpIn_rangeFunc ?_
  intro fn hfn
  rw [hro]
  obtain ⟨rec, hrec⟩ : ∃ rec : LoopState → Option Code → Loop, rec = fun st pe => { state := st, pending := pe, fn, tmps := a.tmps, params := #[p], assign, body, defers := w.heap.size } := ⟨_, rfl⟩
  obtain ⟨W1, hW1⟩ : ∃ W1, (w.alloc (.deferred (some []))).alloc (.loop (rec .ready none)) = W1 := ⟨_, rfl⟩
  have hL1 : W1.heap[w.heap.size + 1]? = some (.loop (rec .ready none)) := by
    rw [← hW1]; have := World.alloc_heap_new (w.alloc (.deferred (some []))) (.loop (rec .ready none)); rwa [World.size_alloc] at this
  have hK1 : W1.heap[w.heap.size]? = some (.deferred (some [])) := by
    rw [← hW1]; exact (Below.heap_alloc _ _ _ (by simp)).trans (World.alloc_heap_new w _)
  have hI1 : I 0 W1 := by rw [← hW1]; exact (hI 0).alloc _ ((hI 0).alloc _ h0)
  refine ⟨w.heap.size + 1, [{ target := .collected w.heap.size, args := #[] }], W1, { target := .fn (.func gf) #[], args := fb ++ #[.func (.yield (w.heap.size + 1)) #[] #[]] }, W1, gf,
    fb ++ #[.func (.yield (w.heap.size + 1)) #[] #[]], W1, ?_, ?_, ?_, ?_, fun _ => h1, ?_⟩
  · rw [← hW1, hrec]; exact run_enterLoop_outer _ _ _ _ _
  · simp only [resolve, hg]
    simp [go_sem]
  · intro f' hf'; simp [Target.leads] at hf'; subst hf'; exact hFg
  · simp [invoke, go_sem, eg]
  · refine (hseq (w.heap.size + 1)
      (fun i W => I i W ∧ W.heap[w.heap.size + 1]? = some (.loop (rec .ready none)) ∧ W.heap[w.heap.size]? = some (.deferred (some [])))
      (fun W => Ix W ∧ W.heap[w.heap.size + 1]? = some (.loop (rec .done (some .ret))) ∧ W.heap[w.heap.size]? = some (.deferred (some [])))
      W1 (fun i W' hj => hRd i W' hj.1) ?_ (And.intro hI1 (And.intro hL1 hK1))).mono ?_
    · rintro i W hlen ⟨hi, hl, hk⟩
      have hlt : w.heap.size + 1 < W.heap.size := (Array.getElem?_eq_some_iff.1 hl).1
      have hy := run_yield (P := P) (args := #[enc i]) hl (by rw [hrec]; rfl)
      rw [hrec] at hy
      refine ⟨fn, a.tmps.setIfInBounds p (enc i), assign, body, by simpa using hy, roundIn_of_wpIn hfn ?_⟩
      refine hassign _ i W _ ?_
      refine ⟨_, run_beginRound hl (by rw [hrec]), ?_⟩
      have hl2 : (W.putObj (w.heap.size + 1) (.loop { rec .ready none with state := .busy })).heap[w.heap.size + 1]? = some (.loop { rec .ready none with state := .busy }) := World.putObj_heap_same hlt
      have hk2 : (W.putObj (w.heap.size + 1) (.loop { rec .ready none with state := .busy })).heap[w.heap.size]? = some (.deferred (some [])) := (World.putObj_heap_other (by omega)).trans hk
      refine wpIn_mono (hbody _ i _ hlen ((hI i).putObj _ hi (by omega) hl rfl)) ?_
      have fin : ∀ (jump : Option Code) (W3 : World), KeepsFrom w.heap.size (W.putObj (w.heap.size + 1) (.loop { rec .ready none with state := .busy })) W3 →
          (Instr.endRound (w.heap.size + 1) jump).run P W3 = .ok (.bool jump.isNone) (W3.putObj (w.heap.size + 1) (.loop (rec (if jump.isNone then .ready else .done) jump))) ∧
          W3.heap[w.heap.size + 1]? = some (.loop { rec .ready none with state := .busy }) ∧
          (W3.putObj (w.heap.size + 1) (.loop (rec (if jump.isNone then .ready else .done) jump))).heap[w.heap.size + 1]? = some (.loop (rec (if jump.isNone then .ready else .done) jump)) ∧
          (W3.putObj (w.heap.size + 1) (.loop (rec (if jump.isNone then .ready else .done) jump))).heap[w.heap.size]? = some (.deferred (some [])) := fun jump W3 hk3 => by
        have hl3 := hk3.same _ _ (by omega) hl2 rfl
        have := run_endRound (P := P) jump hl3
        rw [hrec] at this ⊢
        exact ⟨this, by rw [hrec] at hl3; exact hl3, World.putObj_heap_same (Array.getElem?_eq_some_iff.1 hl3).1, (World.putObj_heap_other (by omega)).trans (hk3.same _ _ (Nat.le_refl _) hk2 rfl)⟩
      rintro e a3 W3 hp
      cases e with
      | normal =>
        obtain ⟨hk3, hi3⟩ := hp
        obtain ⟨hr, hl3, hl4, hk4⟩ := fin none W3 hk3
        exact ⟨_, _, hr, .inl ⟨rfl, (hI _).putObj _ hi3 (by omega) hl3 rfl, hl4, hk4⟩⟩
      | ret =>
        obtain ⟨hk3, hi3⟩ := hp
        obtain ⟨hr, hl3, hl4, hk4⟩ := fin (some .ret) W3 hk3
        exact ⟨_, _, hr, .inr ⟨rfl, hIx.putObj _ hi3 (by omega) hl3 rfl, hl4, hk4⟩⟩
      | exit id => exact hp.elim
      | goto t => exact hp.elim
      | panic ch => exact hp.elim
      | outgrown => exact hp.elim
    · rintro e W2 ⟨⟨v, rfl⟩, (⟨hi, hl, hk⟩ | ⟨hi, hl, hk⟩)⟩
      · exact ⟨none, _, by have := run_endLoop (P := P) hl (by rw [hrec]; simp); rw [hrec] at this; exact this, hdone _ _ (Nat.le_refl _) ((hI _).putObj _ hi (by omega) hl rfl) ((World.putObj_heap_other (by omega)).trans hk)⟩
      · exact ⟨some .ret, _, by have := run_endLoop (P := P) hl (by rw [hrec]; simp); rw [hrec] at this; exact this, hstop _ _ (Nat.le_refl _) (hIx.putObj _ hi (by omega) hl rfl) ((World.putObj_heap_other (by omega)).trans hk)⟩
end Go.Proofs.YtdgjcjhicbgfaaaGreat
end

/- each: it hands out where each frame lies, one behind the other. Conditions: the list lies as it lay when a round is over. -/
section
namespace Go.Proofs.YtdgjcjhicbgfaaaGreat
open Go.RowKit Go.Shelf
attribute [local go_sem] Oper.semAt_some
set_option linter.unusedVariables false
def EachRd (g go b off N : Nat) (W : World) : Prop := ∃ A c, W.cell? ⟨g, go, none⟩ = some (.slice A N c) ∧ (0 < N → A = some ⟨b, off, none⟩)
set_option maxHeartbeats 2000000 in
theorem each_gives (F : Fence) (n : Nat) (h204 : F.fn 204) (hro : F.round = none) (hn : 1 ≤ n) (g go b off N : Nat) (hN : N ≤ 5000) :
    Gives F n Tryz.prog 204 #[.pointer (some ⟨g, go, none⟩)] N (fun i => .pointer (some ⟨b, off + i * 3, none⟩)) (EachRd g go b off N) := by
  intro l J Jx W hJ hY h0
  refine callsIn_of_wp Tryz.func204 rfl h204 ?_ hro
  simp only [Tryz.ntmps204, List.size_toArray, List.length_cons, List.length_nil, Nat.reduceAdd, Nat.reduceSub, Array.replicate_succ, Array.replicate_zero, List.push_toArray, List.append_toArray, List.nil_append, List.cons_append]
  obtain ⟨A, c, hc, hA⟩ := hJ _ _ h0
  have H0 := Aside.mk h0
  have HJ := Aside.mk hJ
  have HY := Aside.mk hY
  clear h0 hJ hY hA
  gi_wp2
  gi_loopw [10] (fun p wr => ∃ i : Nat, i ≤ N ∧ p = .int .i64 i ∧ Aside (J i wr)) (fun p _ => N - (intOf p).toNat)
  case atStart => exact ⟨0, by omega, rfl, H0⟩
  case round =>
    obtain ⟨i, hi, rfl, HI⟩ := hrel
    by_cases hlt : i < N
    · obtain ⟨A, c, hc, hA⟩ := HJ.out _ _ HI.out
      obtain rfl := hA (by omega)
      obtain ⟨fn, tmps, assign, body, hy, hR⟩ := HY.out i wr hlt HI.out
      have HR := Aside.mk hR
      clear hA hR
      have hi0 : (0 : Int) ≤ i := by omega
      have hi1 : (i : Int) < N := by omega
      have hw : IntKind.i64.wrap ((i : Int) + 1) = (i : Int) + 1 := IntWalk.i64_in _ (by omega)
      gi_wp2
      refine HR.out.mono ?_
      rintro e W3 (⟨rfl, hJ3⟩ | ⟨rfl, hJx3⟩)
      · have HJ3 := Aside.mk hJ3
        clear hJ3
        gi_wp2
        exact ⟨⟨i + 1, by omega, by simp, HJ3⟩, by simp [intOf]; omega⟩
      · have HJ3 := Aside.mk hJx3
        clear hJx3
        gi_wp2
        refine bodyPost_ret (results_none rfl _ _ _) rfl ?_
        exact ⟨⟨_, rfl⟩, .inr HJ3.out⟩
    · have hi1 : ¬ (i : Int) < N := by omega
      have hiN : i = N := by omega
      subst hiN
      gi_wp2
      go_end0
      exact ⟨⟨_, rfl⟩, .inl HI.out⟩
end Go.Proofs.YtdgjcjhicbgfaaaGreat
end
