/- few: whether a call's texts are few. Conditions: the texts read. -/
import Derived.Test.YtjhpeelgehchiaaOne
namespace Go.Proofs.Ytjhpeelgehchiaa
open Go.RowKit Go.Proofs.YtjhpeelgehchiaaW.PrintWords
set_option linter.unusedVariables false

/-- Texts that lie, by an index function. -/
def Txts (w : World) (a : Option Addr) (len : Nat) (L : Nat → ByteArray) : Prop := ∀ k, k < len → ∃ b off, a = some ⟨b, off, none⟩ ∧ w.cell? ⟨b, off + k, none⟩ = some (.string (L k))
theorem Txts.below {w w1 : World} {a : Option Addr} {len : Nat} {L : Nat → ByteArray} (h : Txts w a len L) (hb : Below w.heap.size w w1) : Txts w1 a len L := by
  intro k hk
  obtain ⟨b, off, ha, hc⟩ := h k hk
  exact ⟨b, off, ha, below_cell hb hc⟩
def fewP (len : Nat) (L : Nat → ByteArray) : Prop := len ≤ 20 ∧ ∀ k, k < len → (L k).size ≤ 200
def FewPost (len : Nat) (L : Nat → ByteArray) (e : Ending) : Prop := ∃ b, e = .returned (.bool b) ∧ (b = true ↔ fewP len L)
set_option maxHeartbeats 2000000 in
theorem few_calls (ask i : Int) (a : Option Addr) (len cap : Nat) (L : Nat → ByteArray) (w : World) (hl : len ≤ maxLen) (ht : Txts w a len L) :
    Calls Try.prog 13 #[.agg #[.int .i64 ask, .int .i64 i, .slice a len cap]] w fun e w' => FewPost len L e ∧ Below w.heap.size w w' := by
  unfold maxLen at hl
  have hc0 := (Blk.new w 38 #[.int .i64 ask, .int .i64 i, .slice a len cap]).cell 2
  have hba : Below w.heap.size w (w.alloc (.cells #[.int .i64 ask, .int .i64 i, .slice a len cap] 38)) := (Below.refl _ _).alloc (Nat.le_refl _) _
  have HT := Aside.mk (ht.below hba)
  have HB := Aside.mk hba
  by_cases h20 : (20 : Int) < (len : Int)
  · clear hc0 hba ht
    go_enter Try.func13, Try.ntmps13
    go_wp2
    go_ret
    exact ⟨⟨false, rfl, by simp; intro h; have := h.1; omega⟩, HB.out⟩
  · clear hba ht
    go_enter Try.func13, Try.ntmps13
    go_wp2_with fail
    go_loop [3] (fun i => ∃ k : Nat, i = .int .i64 k ∧ k ≤ len ∧ Aside (∀ j, j < k → (L j).size ≤ 200)) (fun i => len - (intOf i).toNat)
    case atStart => exact ⟨0, rfl, by omega, ⟨fun j hj => absurd hj (by omega)⟩⟩
    case round =>
      obtain ⟨k, rfl, hk, HR⟩ := hrel
      by_cases hlt : k < len
      · obtain ⟨b, off, ha, hc⟩ := HT.out k hlt
        subst ha
        have hw : IntKind.i64.wrap ((k : Int) + 1) = (k : Int) + 1 := IntWalk.i64_in _ (by omega)
        have hk0 : (0 : Int) ≤ k := by omega
        have hk1 : (k : Int) < len := by omega
        by_cases hbig : (200 : Int) < ((L k).size : Int)
        · go_wp2
          go_ret
          exact ⟨⟨false, rfl, by simp; intro h; have := h.2 k hlt; omega⟩, HB.out⟩
        · go_wp2
          exact ⟨⟨k + 1, by simp, by omega, ⟨fun j hj => by rcases Nat.lt_succ_iff_lt_or_eq.1 hj with h | h; exact HR.out j h; subst h; omega⟩⟩, by simp [intOf]; omega⟩
      · go_wp2
        go_ret
        exact ⟨⟨true, rfl, by simp; exact ⟨by omega, fun j hj => HR.out j (by omega)⟩⟩, HB.out⟩
end Go.Proofs.Ytjhpeelgehchiaa
