/- What an argument that reads as data is made of: whole numbers, bools, strings, structs, arrays, and slices of these, to the bottom. Conditions: that it reads. -/
import Derived.Test.YtdhgallfplbhpaaBase
import Derived.ProofKit
import Derived.OpenShut
import Derived.ShutString
import Derived.ChangeOld
import Derived.SizedLaws
import Derived.Deep.Slices
import Derived.Lib.SmallJoins
namespace Go.Proofs.Ytdhgallfplbhpaa
open Go.RowKit Go.ChangeShapes Go.WideShapes

/-- These cells read by this type. -/
def Reads (P : Program) (W : World) (t : TypeId) (cs : List Value) : Prop := ∃ (H : Type) (enc : TypeId × Value → H) (base : Nat) (spare : Nat → Bool) (held : Bool) (n : Nat) (x : DataW H × List MemPlace), DataW.trod enc P W base spare held n t cs = some x
section
variable {P : Program} {W : World} {t e : TypeId} {cs : List Value}
theorem reads_of {H : Type} {enc : TypeId × Value → H} {base : Nat} {spare : Nat → Bool} {held : Bool} {v : Value} {d : DataW H} {p : List MemPlace} (h : DataW.Trod enc P W base spare held t v d p) : Reads P W t v.cells.toList := by
  obtain ⟨n, hn⟩ := h
  exact ⟨H, enc, base, spare, held, n, _, hn⟩
theorem reads_int {k : IntKind} (ht : P.underlying t = some (.int k)) (h : Reads P W t cs) : ∃ n, cs = [.int k n] ∧ (Lit.int k n).wf = true := by
  obtain ⟨H, enc, base, spare, held, n, x, h⟩ := h
  obtain ⟨m, h1, _, h3⟩ := DataW.trod_int ht h
  exact ⟨m, h1, h3⟩
theorem reads_bool (ht : P.underlying t = some .bool) (h : Reads P W t cs) : ∃ b, cs = [.bool b] := by
  obtain ⟨H, enc, base, spare, held, n, x, h⟩ := h
  obtain ⟨m, h1, _⟩ := DataW.trod_bool ht h
  exact ⟨m, h1⟩
theorem reads_string (ht : P.underlying t = some .string) (h : Reads P W t cs) : ∃ s : ByteArray, cs = [.string s] ∧ s.size ≤ maxLen := by
  obtain ⟨H, enc, base, spare, held, n, x, h⟩ := h
  obtain ⟨m, h1, _, h3⟩ := DataW.trod_string ht h
  exact ⟨m, h1, h3⟩
theorem reads_struct {fs : Array Field} (ht : P.underlying t = some (.struct fs)) (h : Reads P W t cs) : cs.length = P.cellsOf t ∧ ∀ (i : Nat) (f : Field), fs[i]? = some f → Reads P W f.type ((cs.drop f.offset).take (P.cellsOf f.type)) := by
  obtain ⟨H, enc, base, spare, held, n, x, h⟩ := h
  obtain ⟨xs, m, _, _, hl, hx, hf⟩ := DataW.trod_struct ht h
  refine ⟨hl, fun i f hi => ?_⟩
  have h1 := hf i f hi
  have hlt : i < xs.length := by rw [hx]; exact (Array.getElem?_eq_some_iff.1 hi).1
  rw [List.getElem?_eq_getElem hlt] at h1
  exact ⟨H, enc, base, spare, held, m, _, h1⟩
theorem reads_array {n : Nat} (ht : P.underlying t = some (.array n e)) (h : Reads P W t cs) : cs.length = P.cellsOf t ∧ ∀ i, i < n → Reads P W e ((cs.drop (i * P.cellsOf e)).take (P.cellsOf e)) := by
  obtain ⟨H, enc, base, spare, held, fu, x, h⟩ := h
  obtain ⟨xs, m, _, _, hl, hx, hf⟩ := DataW.trod_array ht h
  refine ⟨hl, fun i hi => ?_⟩
  have h1 := hf i hi
  rw [List.getElem?_eq_getElem (by omega)] at h1
  exact ⟨H, enc, base, spare, held, m, _, h1⟩
theorem reads_slice (ht : P.underlying t = some (.slice e)) (h : Reads P W t cs) : ∃ a len cap, cs = [.slice a len cap] ∧ len ≤ maxLen ∧ (0 < len → ∃ ad, a = some ad ∧ ∀ i, i < len → ∃ base cs', W.cells? base (ad.add (i * P.cellsOf e)) (P.cellsOf e) = some cs' ∧ Reads P W e cs') := by
  obtain ⟨H, enc, base, spare, held, fu, x, h⟩ := h
  rcases Deep.open_slice ht h with ⟨rfl, _⟩ | ⟨a, len, cap, m, n, D, Pl, rfl, _, hl, hm, hmm, _, hx⟩
  · exact ⟨none, 0, 0, rfl, Nat.zero_le _, fun h0 => absurd h0 (Nat.lt_irrefl _)⟩
  · refine ⟨some a, len, cap, rfl, by omega, fun _ => ⟨a, rfl, fun i hi => ?_⟩⟩
    have hle : len ≤ m := by rw [hmm]; split <;> omega
    obtain ⟨cs', h1, h2⟩ := hx i (by omega)
    exact ⟨base, cs', h1, H, enc, base, spare, held, n, _, h2⟩
/-- A slice by an index function: each element's cells, and what is told of them. -/
theorem sl_of {α : Type} [Inhabited α] {Q : α → List Value → Prop} {sz : Nat} (ht : P.underlying t = some (.slice e)) (hsz : P.cellsOf e = sz) (h0 : 0 < sz) (dec : ∀ cs, Reads P W e cs → ∃ y, Q y cs) (h : Reads P W t cs) :
    ∃ a len cap L, cs = [.slice a len cap] ∧ Sl W a len sz Q L := by
  obtain ⟨a, len, cap, rfl, hl, hx⟩ := reads_slice ht h
  by_cases hn : 0 < len
  · obtain ⟨ad, ha, hy⟩ := hx hn
    subst ha
    have each : ∀ i, i < len → ∃ y : α, ∃ cs : List Value, cs.length = sz ∧ Q y cs ∧ ∀ j, j < sz → W.cell? (ad.add (i * sz + j)) = cs[j]? := by
      intro i hi
      obtain ⟨b, cs', h1, h2⟩ := hy i hi
      rw [hsz] at h1
      obtain ⟨_, h3, h4⟩ := World.cells?_some h1
      obtain ⟨y, hy⟩ := dec cs' h2
      exact ⟨y, cs', h3, hy, fun j hj => by rw [← h4 j hj, Deep.add_add]⟩
    obtain ⟨L, hL⟩ := Deep.choose_lt each
    obtain ⟨b, off, spot⟩ := ad
    have hspot : spot = none := by
      obtain ⟨cs, hc, _, hz⟩ := hL 0 hn
      have hz0 := hz 0 h0
      rw [List.getElem?_eq_getElem (by omega)] at hz0
      simpa [Addr.add] using World.cell?_spot hz0
    subst hspot
    refine ⟨some ⟨b, off, none⟩, len, cap, L, rfl, hl, fun _ => ⟨b, off, rfl, fun i hi => ?_⟩⟩
    obtain ⟨cs, h1, h2, h3⟩ := hL i hi
    exact ⟨cs, h1, h2, fun j hj => by rw [← h3 j hj, Go.WideShapes.add_plain]⟩
  · exact ⟨a, len, cap, fun _ => default, rfl, hl, fun h => absurd h hn⟩
end
theorem wf_i64 {n : Int} (h : (Lit.int .i64 n).wf = true) : -9223372036854775808 ≤ n ∧ n ≤ 9223372036854775807 := Go.bounds_i64 h
/-- An element that is an int. -/
theorem dec_int {P : Program} {W : World} {t : TypeId} {cs : List Value} (ht : P.underlying t = some (.int .i64)) (h : Reads P W t cs) : ∃ n, isInt n cs := by
  obtain ⟨n, h1, h2⟩ := reads_int ht h
  exact ⟨n, h1, wf_i64 h2⟩
/-- An array of two ints. -/
theorem arr2_of {P : Program} {W : World} {t e : TypeId} {cs : Array Value} (ht : P.underlying t = some (.array 2 e)) (he : P.underlying e = some (.int .i64)) (hc : P.cellsOf e = 1) (hc2 : P.cellsOf t = 2) (hz : cs.size = P.cellsOf t) (h : Reads P W t (Value.agg cs).cells.toList) :
    ∃ x y : Int, cs = #[.int .i64 x, .int .i64 y] ∧ (-9223372036854775808 ≤ x ∧ x ≤ 9223372036854775807) ∧ (-9223372036854775808 ≤ y ∧ y ≤ 9223372036854775807) := by
  obtain ⟨_, hx⟩ := reads_array ht h
  rw [hc2] at hz
  obtain ⟨c0, c1, rfl⟩ := Joins.array2 hz
  have h0 := hx 0 (by omega)
  have h1 := hx 1 (by omega)
  simp [hc, Value.cells] at h0 h1
  obtain ⟨x, e0, w0⟩ := reads_int he h0
  obtain ⟨y, e1, w1⟩ := reads_int he h1
  simp at e0 e1
  subst e0 e1
  exact ⟨x, y, rfl, wf_i64 w0, wf_i64 w1⟩
/-- A struct's field of one cell that reads as an int. -/
theorem field_int {P : Program} {W : World} {t : TypeId} {cs : List Value} {fs : Array Field} (ht : P.underlying t = some (.struct fs)) (h : Reads P W t cs) (i : Nat) (f : Field) (hf : fs[i]? = some f) (hc : P.cellsOf f.type = 1) (hu : P.underlying f.type = some (.int .i64)) : ∃ n : Int, (cs.drop f.offset).take 1 = [.int .i64 n] ∧ -9223372036854775808 ≤ n ∧ n ≤ 9223372036854775807 := by
  have h1 := (reads_struct ht h).2 i f hf
  rw [hc] at h1
  obtain ⟨n, h2, h3⟩ := reads_int hu h1
  exact ⟨n, h2, wf_i64 h3⟩
theorem field_bool {P : Program} {W : World} {t : TypeId} {cs : List Value} {fs : Array Field} (ht : P.underlying t = some (.struct fs)) (h : Reads P W t cs) (i : Nat) (f : Field) (hf : fs[i]? = some f) (hc : P.cellsOf f.type = 1) (hu : P.underlying f.type = some .bool) : ∃ b : Bool, (cs.drop f.offset).take 1 = [.bool b] := by
  have h1 := (reads_struct ht h).2 i f hf
  rw [hc] at h1
  exact reads_bool hu h1
theorem one_cell {cs : List Value} {o : Nat} {v : Value} (h : (cs.drop o).take 1 = [v]) : cs[o]? = some v := by
  have h0 : ((cs.drop o).take 1)[0]? = some v := by rw [h]; rfl
  simpa using h0
theorem list2 {cs : List Value} {a b : Value} (hl : cs.length = 2) (h0 : cs[0]? = some a) (h1 : cs[1]? = some b) : cs = [a, b] := by
  match cs, hl with
  | [x, y], _ => simp at h0 h1; rw [h0, h1]
theorem list3 {cs : List Value} {a b c : Value} (hl : cs.length = 3) (h0 : cs[0]? = some a) (h1 : cs[1]? = some b) (h2 : cs[2]? = some c) : cs = [a, b, c] := by
  match cs, hl with
  | [x, y, z], _ => simp at h0 h1 h2; rw [h0, h1, h2]
theorem list4 {cs : List Value} {a b c d : Value} (hl : cs.length = 4) (h0 : cs[0]? = some a) (h1 : cs[1]? = some b) (h2 : cs[2]? = some c) (h3 : cs[3]? = some d) : cs = [a, b, c, d] := by
  match cs, hl with
  | [x, y, z, u], _ => simp at h0 h1 h2 h3; rw [h0, h1, h2, h3]
theorem dec_bool {P : Program} {W : World} {t : TypeId} {cs : List Value} (ht : P.underlying t = some .bool) (h : Reads P W t cs) : ∃ b, isBool b cs := reads_bool ht h
end Go.Proofs.Ytdhgallfplbhpaa
