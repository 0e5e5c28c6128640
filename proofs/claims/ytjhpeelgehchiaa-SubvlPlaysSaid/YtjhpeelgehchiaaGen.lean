/- Rows of any kind that grow; objects that lie apart. Conditions: plain lemmas. -/
import Derived.Test.YtjhpeelgehchiaaOrd
import Derived.Lib.AppendZeros
namespace Go.Proofs.Ytjhpeelgehchiaa
open Go.RowKit Go.Proofs.YtjhpeelgehchiaaW.PrintWords
set_option linter.unusedVariables false

/-- Values that lie behind an address. -/
def SrcV (w : World) (a : Option Addr) (news : List Value) : Prop := 0 < news.length → ∃ ad, a = some ad ∧ ∀ j u, news[j]? = some u → w.cell? (ad.add j) = some u
theorem run_app (w : World) (T E ty : TypeId) (i : TypeInfo) (z : Value) (size bytes : Nat) (hT : Try.prog.underlying T = some (.slice E)) (hi : Try.prog.info? E = some i) (hz0 : i.zero = some z)
    (hz1 : i.size = size) (hz2 : i.bytes = bytes) (hzs : z.cells.size = size) (hsz : 0 < size) (hby : bytes ≤ 1000)
    (v : Value) (n : Nat) (xs : List Value) (hown : QRow w 0 E size v n xs) (a : Option Addr) (m c : Nat) (news : List Value) (hl : news.length = m * size) (hs : SrcV w a news) (h1 : ∀ u ∈ news, u.oneCell' = true) (hle : n + m ≤ 5000) :
    ∃ A' c' w', (Builtin.append_ #[T, T] ty #[v, .slice a m c]).run Try.prog w = .ok (.slice A' (n + m) c') w' ∧ QRow w' 0 E size (.slice A' (n + m) c') (n + m) (xs ++ news) ∧ w.grownBy w' v.ownBlock ∧
      ((Value.slice A' (n + m) c').ownBlock = v.ownBlock ∨ ∃ b, (Value.slice A' (n + m) c').ownBlock = some b ∧ w.heap.size ≤ b) := by
  by_cases hm : m = 0
  · subst hm
    have hy : news = [] := List.eq_nil_of_length_eq_zero (by rw [hl]; omega)
    subst hy
    obtain ⟨A, cc, rfl, hnc⟩ := q_slice hown
    refine ⟨A, cc, w, ?_, by simpa using hown, ⟨rfl, rfl, rfl, Nat.le_refl _, fun _ _ _ => rfl⟩, .inl ?_⟩
    · cases A <;> cases a <;> simp [Builtin.append_, run_underlying hT, sizeOf, typeInfo, hi, Builtin.lenOf, Builtin.firstCells, loadCells, loadCellsFrom, hnc, storeCells]
    · rfl
  · have h0 : 0 < news.length := by rw [hl]; exact Nat.mul_pos (by omega) hsz
    obtain ⟨ad, rfl, hr⟩ := hs h0
    have hbb : (n + m) * bytes ≤ 5000 * 1000 := Nat.mul_le_mul hle hby
    obtain ⟨v', w', hrun, hq, hg, hat⟩ := q_append (P := Try.prog) w 0 T ty E i z size bytes hT hi hz0 hz1 hz2 hzs hsz v n xs hown ad m c news hl hr h1 (by omega) (by unfold maxLen; omega) (by omega) (Nat.zero_le _)
    obtain ⟨A', c', rfl, _⟩ := q_slice hq
    exact ⟨A', c', w', hrun, hq, hg, hat⟩
section
variable {P : Program}
theorem step_run {ops : Array Oper} {o : Oper} {a : Act} {K : Act → World → Prop} {Q : Exit → Act → World → Prop} {E : Prop} {w : World} (hgd : o.guard = none) (s x : Operand) (T : TypeId)
    (ho : o.op = .call { callee := .builtin .append, args := #[s, x], argTypes := #[T, T] })
    (vs vx : Value) (hs : a.eval s = vs) (hx : a.eval x = vx) (v' : Value) (w' : World) (hr : (Builtin.append_ #[T, T] o.type #[vs, vx]).run P w = .ok v' w')
    (h : K (a.put o.dst v') w') :
    if Region.wanted o (yielded ops a.tmps) = true then Oper.wp P o a w K Q else E := by
  have hw : Region.wanted o (yielded ops a.tmps) = true := by simp [Region.wanted, hgd]
  rw [if_pos hw]
  unfold Oper.wp execOp
  simp only [ho, resolve, invoke, builtin, Sem.run_bind, Sem.run_pure, Result.andThen_ok, List.map_toArray, List.map_cons, List.map_nil, hs, hx, hr]
  exact h
end
def Owns (w : World) (h : Nat) : Prop := ∀ k, Mine w h k → k < w.heap.size
theorem mine_same {w w1 : World} {h : Nat} (hm : w1.heap[h]? = w.heap[h]?) (k : Nat) : Mine w1 h k ↔ Mine w h k := by
  have hc : ∀ i, w1.cell? ⟨h, i, none⟩ = w.cell? ⟨h, i, none⟩ := fun i => World.cell?_of_block hm
  unfold Mine
  constructor
  · rintro (h | ⟨i, v, hi, h1, h2⟩)
    · exact .inl h
    · exact .inr ⟨i, v, hi, by rw [← hc i]; exact h1, h2⟩
  · rintro (h | ⟨i, v, hi, h1, h2⟩)
    · exact .inl h
    · exact .inr ⟨i, v, hi, by rw [hc i]; exact h1, h2⟩
theorem still2 {w w1 : World} {g h : Nat} (t : Turns w w1 g) (ap : Apart w g h) : ∀ k, k < w.heap.size → Mine w h k → w1.heap[k]? = w.heap[k]? :=
  fun k hk hm => t.upon.block k hk fun hg => ap k hg hm
theorem apart_turn2 {w w1 : World} {g h : Nat} (t : Turns w w1 g) (o : Owns w h) (ap : Apart w g h) : Apart w1 g h := by
  intro k hg hh
  have hself : w1.heap[h]? = w.heap[h]? := still2 t ap h (o h (.inl rfl)) (.inl rfl)
  have hh' := (mine_same hself k).1 hh
  rcases t.mine k hg with h1 | h1
  · exact ap k h1 hh'
  · have := o k hh'
    omega
theorem apart_keep {w w1 : World} {h j : Nat} (ha : w1.heap[h]? = w.heap[h]?) (hb : w1.heap[j]? = w.heap[j]?) (ap : Apart w h j) : Apart w1 h j :=
  fun k h1 h2 => ap k ((mine_same ha k).1 h1) ((mine_same hb k).1 h2)
end Go.Proofs.Ytjhpeelgehchiaa
