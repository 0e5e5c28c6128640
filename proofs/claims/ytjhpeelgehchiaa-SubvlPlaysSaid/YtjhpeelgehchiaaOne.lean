/- Single texts pushed, the pops of queues that a statement has made; texts that came in. Conditions: the queues lie. -/
import Derived.Test.YtjhpeelgehchiaaAwake
import Derived.Test.YtjhpeelgehchiaaOpen
namespace Go.Proofs.Ytjhpeelgehchiaa
open Go.RowKit Go.Proofs.YtjhpeelgehchiaaW.PrintWords
set_option linter.unusedVariables false

theorem one_fits {w0 W : World} {g : Nat} {s : St} (H : In w0 W g s) (j : Nat) (t : ByteArray) (hj : j < s.many) (hf : (s.L j).length + 1 ≤ s.depth) :
    Calls Try.prog 11 #[.pointer (some ⟨g, 0, none⟩), .int .i64 j, .slice (some ⟨W.heap.size, 0, none⟩) 1 1] (W.alloc (.cells #[.string t] 9)) fun e w' => e = .returned (.int .i64 0) ∧ In w0 w' g (s.push j [t]) := by
  have H1 := H.alloc (.cells #[.string t] 9)
  refine (push_fits g s j _ 1 1 [t] _ H1.held H1.ok hj hf (src_new W [t])).mono ?_
  rintro e w' ⟨rfl, hp⟩
  exact ⟨rfl, H1.step hp (St.push_ok H.ok hj hf)⟩
theorem one_full {w0 W : World} {g : Nat} {s : St} (H : In w0 W g s) (j : Nat) (t : ByteArray) (hj : j < s.many) (hf : (s.L j).length = s.depth) :
    Calls Try.prog 11 #[.pointer (some ⟨g, 0, none⟩), .int .i64 j, .slice (some ⟨W.heap.size, 0, none⟩) 1 1] (W.alloc (.cells #[.string t] 9)) fun e w' => e = .returned (.int .i64 22) ∧ In w0 w' g s := by
  have H1 := H.alloc (.cells #[.string t] 9)
  refine (push_full g s j _ 1 1 _ H1.held H1.ok hj (by omega) (by decide)).mono ?_
  rintro e w' ⟨rfl, hb⟩
  exact ⟨rfl, H1.next hb⟩
theorem one_arg {w0 W : World} {g : Nat} {s : St} (H : In w0 W g s) (i : Int) (t : ByteArray) (hj : ¬ (0 ≤ i ∧ i < s.many)) :
    Calls Try.prog 11 #[.pointer (some ⟨g, 0, none⟩), .int .i64 i, .slice (some ⟨W.heap.size, 0, none⟩) 1 1] (W.alloc (.cells #[.string t] 9)) fun e w' => e = .returned (.int .i64 1) ∧ In w0 w' g s := by
  have H1 := H.alloc (.cells #[.string t] 9)
  refine (push_arg g s i _ 1 1 _ H1.held hj).mono ?_
  rintro e w' ⟨rfl, rfl⟩
  exact ⟨rfl, H1⟩
theorem none_fits {w0 W : World} {g : Nat} {s : St} (H : In w0 W g s) (j : Nat) (hj : j < s.many) :
    Calls Try.prog 11 #[.pointer (some ⟨g, 0, none⟩), .int .i64 j, .slice none 0 0] W fun e w' => e = .returned (.int .i64 0) ∧ In w0 w' g (s.push j []) := by
  have hl := H.ok.len j
  refine (push_fits g s j _ 0 0 [] _ H.held H.ok hj (by omega) ⟨rfl, fun h => absurd h (by omega)⟩).mono ?_
  rintro e w' ⟨rfl, hp⟩
  exact ⟨rfl, H.step hp (St.push_ok H.ok hj (by simpa using hl))⟩
theorem in_len {w0 W : World} {g : Nat} {s : St} (H : In w0 W g s) (i : Int) : Calls Try.prog 14 #[.pointer (some ⟨g, 0, none⟩), .int .i64 i] W fun e w' => e = .returned (.int .i64 (s.lenI i)) ∧ W = w' := len_calls g s i W H.held H.ok
theorem in_all {w0 W : World} {g : Nat} {s : St} (H : In w0 W g s) : Calls Try.prog 15 #[.pointer (some ⟨g, 0, none⟩)] W fun e w' => e = .returned (.int .i64 s.all) ∧ W = w' := all_calls g s W H.held
theorem in_pop {w0 W : World} {g : Nat} {s : St} (H : In w0 W g s) {d T : Nat} (hn : s.isNext d T) :
    Calls Try.prog 12 #[.pointer (some ⟨g, 0, none⟩)] W fun e w' => ∃ x, (s.L T).head? = some x ∧ e = .returned (.tuple #[.int .i64 T, .string x, .int .i64 0]) ∧ In w0 w' g (s.pop T) := by
  obtain ⟨x, xs, hx⟩ : ∃ x xs, s.L T = x :: xs := by
    cases h : s.L T with
    | nil => exact absurd h hn.has
    | cons x xs => exact ⟨x, xs, rfl⟩
  refine (pop_calls g s d T x xs W H.held H.ok hn hx).mono ?_
  rintro e w' ⟨rfl, hp⟩
  exact ⟨x, by rw [hx]; rfl, rfl, H.step hp (St.pop_ok H.ok)⟩
theorem in_empty {w0 W : World} {g : Nat} {s : St} (H : In w0 W g s) (h : s.all = 0) :
    Calls Try.prog 12 #[.pointer (some ⟨g, 0, none⟩)] W fun e w' => e = .returned (.tuple #[.int .i64 0, .string ⟨#[]⟩, .int .i64 23]) ∧ W = w' := pop_empty g s W H.held h

def isStr (s : ByteArray) (cs : List Value) : Prop := cs = [.string s] ∧ s.size ≤ maxLen
theorem dec_str {P : Program} {W : World} {t : TypeId} {cs : List Value} (ht : P.underlying t = some .string) (h : Reads P W t cs) : ∃ s, isStr s cs := by
  obtain ⟨s, h1, h2⟩ := reads_string ht h
  exact ⟨s, h1, h2⟩
theorem Sl.strs {w : World} {a : Option Addr} {len : Nat} {L : Nat → ByteArray} (h : Sl w a len 1 isStr L) : ∀ k, k < len → ∃ b off, a = some ⟨b, off, none⟩ ∧ w.cell? ⟨b, off + k, none⟩ = some (.string (L k)) ∧ (L k).size ≤ maxLen := by
  intro k hk
  obtain ⟨b, off, ha, hx⟩ := h.2 (by omega)
  obtain ⟨cs, hl, ⟨rfl, h1⟩, hc⟩ := hx k hk
  have := hc 0 (by omega)
  simp at this
  exact ⟨b, off, ha, this, h1⟩
end Go.Proofs.Ytjhpeelgehchiaa
