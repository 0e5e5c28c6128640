/- A text of a frame of which one byte was changed is bad; a row of bytes of which one was changed. Conditions: plain lemmas. -/
import Derived.Test.YtdgjcjhicbgfaaaGreatUa
import Derived.Test.YtdgjcjhicbgfaaaGreatCx
import Derived.Test.YtdgjcjhicbgfaaaGreatMg
set_option linter.unusedVariables false
set_option linter.unusedSimpArgs false
set_option linter.unusedSimpArgs false
set_option linter.unusedVariables false
namespace Go.Proofs.YtdgjcjhicbgfaaaGreat
open Go.RowKit Go.Lib

/-- A text that ends in its check sum. -/
structure Sealed (a : ByteArray) : Prop where
  mk :: (out : ∃ l, a.data.toList = sealB l ∧ 64 ≤ a.size ∧ a.size ≤ 147)
theorem Whole.sealed {i : Nat} {s a b : ByteArray} (h : Whole i s a b) : Sealed a ∧ Sealed b := by
  have hl := h.len
  obtain ⟨u, d, k, _, _, _, _, _, _, h6, h7⟩ := h.out
  unfold ethB at h6 h7
  exact ⟨⟨_, h6, hl.1⟩, ⟨_, h7, hl.2⟩⟩
theorem strOf_self (a : ByteArray) : strOf a.data.toList = .string a := rfl
theorem xor_ne {x t : UInt8} (h : t ≠ 0) : x ≠ x ^^^ t := by
  intro e
  apply h
  have e2 : x.toBitVec = x.toBitVec ^^^ t.toBitVec := by
    have := congrArg UInt8.toBitVec e
    simpa using this
  have e3 := congrArg (fun v => x.toBitVec ^^^ v) e2
  simp only [← BitVec.xor_assoc, BitVec.xor_self, BitVec.zero_xor] at e3
  apply UInt8.toBitVec_inj.1
  exact e3.symm
theorem Sealed.bad {a : ByteArray} (h : Sealed a) {i : Nat} {x t : UInt8} (hx : a.data.toList[i]? = some x) (ht : t ≠ 0) : BadT ⟨(a.data.toList.set i (x ^^^ t)).toArray⟩ := by
  obtain ⟨l, h1, h2, h3⟩ := h.out
  have hi := (List.getElem?_eq_some_iff.1 hx).1
  have hx2 := (List.getElem?_eq_some_iff.1 hx).2
  have hlen : a.size = (a.data.toList.set i (x ^^^ t)).length := by rw [List.length_set, str_len]
  have hsz : (⟨(a.data.toList.set i (x ^^^ t)).toArray⟩ : ByteArray).size = a.size := by rw [mk_size, ← hlen]
  refine ⟨by rw [hsz]; exact h2, by rw [hsz]; exact h3, ?_⟩
  rw [hsz, hlen]
  have key := seal_changed l i (x ^^^ t) (by rw [← h1]; exact hi) (by
    have e : (sealB l)[i]? = some x := by rw [← h1]; exact hx
    have e2 := (List.getElem?_eq_some_iff.1 e).2
    rw [e2]
    exact xor_ne ht)
  rw [← h1] at key
  exact key
/-- The byte by which a text is changed. -/
theorem turn_byte (h1 : Int) : ∃ t : UInt8, IntKind.u8.wrap h1 = (t.toNat : Int) ∧ (t = 0 ↔ IntKind.u8.wrap h1 = 0) := by
  have hb := IntKind.wrap_u8 h1
  have hm := Int.emod_nonneg h1 (b := 256) (by decide)
  have hl := Int.emod_lt_of_pos h1 (b := 256) (by decide)
  refine ⟨UInt8.ofNat (h1 % 256).toNat, ?_, ?_⟩
  · rw [hb]; simp; omega
  · rw [hb]
    constructor
    · intro e
      have := congrArg UInt8.toNat e
      simp at this
      omega
    · intro e
      rw [e]; rfl
theorem xor_u8 (x t : UInt8) : Go.bits .xor .u8 (x.toNat : Int) (t.toNat : Int) = ((x ^^^ t).toNat : Int) := by
  have := xor8 x.toBitVec t.toBitVec
  simpa using this
/-- A row of bytes of which one is turned. -/
theorem Bf.set {w : World} {B : Nat} {bs : List UInt8} {g q n : Nat} (h : Bf w B bs (.slice (some ⟨g, 0, none⟩) n q)) (i : Nat) (b : UInt8) : Bf (w.setCell ⟨g, i, none⟩ (.int .u8 b.toNat)) B (bs.set i b) (.slice (some ⟨g, 0, none⟩) n q) ∧ Below B w (w.setCell ⟨g, i, none⟩ (.int .u8 b.toNat)) := by
  obtain ⟨g', cap, cs, fr, he, h1, h2, h3, h4, h5, h6⟩ := h.out
  cases he
  refine ⟨⟨g, q, cs.setIfInBounds i (.int .u8 b.toNat), fr, by simp, h1, ?_, by simpa using h3, by simpa using h4, ?_, by simpa using h6⟩, ?_⟩
  · simp [World.setCell, Array.getElem?_modify, h2]
  · intro j c hj
    rw [List.getElem?_set] at hj
    rw [Array.getElem?_setIfInBounds]
    split at hj
    · rename_i e
      subst e
      split at hj
      · cases hj
        rw [if_pos rfl, if_pos (by omega)]
      · cases hj
    · rename_i e
      rw [if_neg e]
      exact h5 j c hj
  · exact ⟨rfl, rfl, rfl, by simp [World.setCell], fun k hk => Below.heap_setCell _ _ _ _ (by simp; omega)⟩
theorem Bf.frozen {w : World} {B : Nat} {bs : List UInt8} {g q n : Nat} (h : Bf w B bs (.slice (some ⟨g, 0, none⟩) n q)) {i : Nat} (hi : i < bs.length) : w.frozen? ⟨g, i, none⟩ = false := by
  obtain ⟨g', cap, cs, fr, he, h1, h2, h3, h4, h5, h6⟩ := h.out
  cases he
  have := h6 i (by omega)
  simp [World.frozen?, h2]
  omega
end Go.Proofs.YtdgjcjhicbgfaaaGreat
