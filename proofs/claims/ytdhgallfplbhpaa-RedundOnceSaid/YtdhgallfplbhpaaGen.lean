/- Rows that grow; objects whose first cell is such a row; objects that lie apart. Conditions: plain lemmas. -/
import Derived.Test.YtdhgallfplbhpaaBase
import Derived.Lib.AppendZeros
namespace Go.Proofs.Ytdhgallfplbhpaa
open Go.RowKit Go.Proofs.YtdhgallfplbhpaaW.PrintWords
set_option linter.unusedVariables false

/-- The blocks that are an object's own: its block, and that of its row. -/
def Mine (w : World) (g k : Nat) : Prop := k = g ∨ ∃ v, w.cell? ⟨g, 0, none⟩ = some v ∧ v.ownBlock = some k
/-- What a call on an object leaves. -/
structure Turns (w w' : World) (g : Nat) : Prop where
  upon : Upon (Mine w g) w w'
  mine : ∀ k, Mine w' g k → Mine w g k ∨ w.heap.size ≤ k
theorem Turns.refl (w : World) (g : Nat) : Turns w w g := ⟨Upon.refl _ _, fun _ h => .inl h⟩
theorem Turns.trans {a b c : World} {g : Nat} (h : Turns a b g) (k : Turns b c g) : Turns a c g :=
  ⟨h.upon.trans' k.upon h.mine, fun i hi => by
    rcases k.mine i hi with h1 | h1
    · exact h.mine i h1
    · exact .inr (Nat.le_trans h.upon.size h1)⟩
theorem Turns.drewN {a b : World} {h : Nat} (t : Turns a b h) (n : Nat) : Turns a (b.drewN n) h := ⟨t.upon.drewN n, t.mine⟩
/-- Two objects share no block. -/
def Apart (w : World) (g h : Nat) : Prop := ∀ k, Mine w g k → ¬ Mine w h k
theorem Apart.symm {w : World} {g h : Nat} (ha : Apart w g h) : Apart w h g := fun k h1 h2 => ha k h2 h1
theorem blk_grown {w w1 : World} {row : Option Nat} (hg : w.grownBy w1 row) {g : Nat} {t : TypeId} {cs : Array Value} (hb : Blk w g t cs) (hne : row ≠ some g) : Blk w1 g t cs :=
  (hg.block g hb.lt (fun h => hne h.symm)).trans hb
theorem far_cell {w w1 : World} {row : Option Nat} (hg : w.grownBy w1 row) {p : Addr} {v : Value} (hc : w.cell? p = some v) (hne : row ≠ some p.block) : w1.cell? p = some v :=
  (World.cell?_of_block (w := w) (hg.block p.block (World.block_lt_of_cell? w p hc) (fun h => hne h.symm))).trans hc
theorem grown_drewN {w w1 : World} {row : Option Nat} {n : Nat} (h : (w.drewN n).grownBy w1 row) : w.grownBy w1 row := ⟨h.os, h.tape, h.output, h.size, h.block⟩
/-- Values that lie behind an address. -/
def SrcV (w : World) (a : Option Addr) (news : List Value) : Prop := 0 < news.length → ∃ ad, a = some ad ∧ ∀ j u, news[j]? = some u → w.cell? (ad.add j) = some u
theorem run_app (w : World) (T E ty : TypeId) (i : TypeInfo) (z : Value) (size bytes : Nat) (hT : Try.prog.underlying T = some (.slice E)) (hi : Try.prog.info? E = some i) (hz0 : i.zero = some z)
    (hz1 : i.size = size) (hz2 : i.bytes = bytes) (hzs : z.cells.size = size) (hsz : 0 < size) (hby : bytes ≤ 1000)
    (v : Value) (n : Nat) (xs : List Value) (hown : QRow w 0 E size v n xs) (a : Option Addr) (m c : Nat) (news : List Value) (hl : news.length = m * size) (hs : SrcV w a news) (h1 : ∀ u ∈ news, u.oneCell' = true) (hle : n + m ≤ 5000) :
    ∃ A' c' w', (Builtin.append_ #[T, T] ty #[v, .slice a m c]).run Try.prog w = .ok (.slice A' (n + m) c') w' ∧ QRow w' 0 E size (.slice A' (n + m) c') (n + m) (xs ++ news) ∧ w.grownBy w' v.ownBlock ∧
      ((Value.slice A' (n + m) c').ownBlock = v.ownBlock ∨ ∃ b, (Value.slice A' (n + m) c').ownBlock = some b ∧ w.heap.size ≤ b) := by
  by_cases hm : m = 0
  · subst hm
    have hy : news = [] := List.eq_nil_of_length_eq_zero (by rw [hl]; omega)
    subst hy
    obtain ⟨A, cc, rfl, hnc⟩ := q_slice hown
    refine ⟨A, cc, w, ?_, by simpa using hown, ⟨rfl, rfl, rfl, Nat.le_refl _, fun _ _ _ => rfl⟩, .inl ?_⟩
    · cases A <;> cases a <;> simp [Builtin.append_, run_underlying hT, sizeOf, typeInfo, hi, Builtin.lenOf, Builtin.firstCells, loadCells, loadCellsFrom, hnc, storeCells]
    · rfl
  · have h0 : 0 < news.length := by rw [hl]; exact Nat.mul_pos (by omega) hsz
    obtain ⟨ad, rfl, hr⟩ := hs h0
    have hbb : (n + m) * bytes ≤ 5000 * 1000 := Nat.mul_le_mul hle hby
    obtain ⟨v', w', hrun, hq, hg, hat⟩ := q_append (P := Try.prog) w 0 T ty E i z size bytes hT hi hz0 hz1 hz2 hzs hsz v n xs hown ad m c news hl hr h1 (by omega) (by unfold maxLen; omega) (by omega) (Nat.zero_le _)
    obtain ⟨A', c', rfl, _⟩ := q_slice hq
    exact ⟨A', c', w', hrun, hq, hg, hat⟩
section
variable {P : Program}
theorem step_run {ops : Array Oper} {o : Oper} {a : Act} {K : Act → World → Prop} {Q : Exit → Act → World → Prop} {E : Prop} {w : World} (hgd : o.guard = none) (s x : Operand) (T : TypeId)
    (ho : o.op = .call { callee := .builtin .append, args := #[s, x], argTypes := #[T, T] })
    (vs vx : Value) (hs : a.eval s = vs) (hx : a.eval x = vx) (v' : Value) (w' : World) (hr : (Builtin.append_ #[T, T] o.type #[vs, vx]).run P w = .ok v' w')
    (h : K (a.put o.dst v') w') :
    if Region.wanted o (yielded ops a.tmps) = true then Oper.wp P o a w K Q else E := by
  have hw : Region.wanted o (yielded ops a.tmps) = true := by simp [Region.wanted, hgd]
  rw [if_pos hw]
  unfold Oper.wp execOp
  simp only [ho, resolve, invoke, builtin, Sem.run_bind, Sem.run_pure, Result.andThen_ok, List.map_toArray, List.map_cons, List.map_nil, hs, hx, hr]
  exact h
end
def Owns (w : World) (h : Nat) : Prop := ∀ k, Mine w h k → k < w.heap.size
theorem mine_same {w w1 : World} {h : Nat} (hm : w1.heap[h]? = w.heap[h]?) (k : Nat) : Mine w1 h k ↔ Mine w h k := by
  have hc : w1.cell? ⟨h, 0, none⟩ = w.cell? ⟨h, 0, none⟩ := World.cell?_of_block hm
  unfold Mine
  rw [hc]
theorem mine_up {w0 W W' : World} {h : Nat} (hs : w0.heap.size ≤ W.heap.size) (t : Turns W W' h) (hm : ∀ k, Mine W h k → w0.heap.size ≤ k) : ∀ k, Mine W' h k → w0.heap.size ≤ k := by
  intro k hk
  rcases t.mine k hk with h1 | h1
  · exact hm k h1
  · omega
theorem still2 {w w1 : World} {g h : Nat} (t : Turns w w1 g) (ap : Apart w g h) : ∀ k, k < w.heap.size → Mine w h k → w1.heap[k]? = w.heap[k]? :=
  fun k hk hm => t.upon.block k hk fun hg => ap k hg hm
theorem apart_turn2 {w w1 : World} {g h : Nat} (t : Turns w w1 g) (o : Owns w h) (ap : Apart w g h) : Apart w1 g h := by
  intro k hg hh
  have hself : w1.heap[h]? = w.heap[h]? := still2 t ap h (o h (.inl rfl)) (.inl rfl)
  have hh' := (mine_same hself k).1 hh
  rcases t.mine k hg with h1 | h1
  · exact ap k h1 hh'
  · have := o k hh'
    omega
theorem apart_keep {w w1 : World} {h j : Nat} (ha : w1.heap[h]? = w.heap[h]?) (hb : w1.heap[j]? = w.heap[j]?) (ap : Apart w h j) : Apart w1 h j :=
  fun k h1 h2 => ap k ((mine_same ha k).1 h1) ((mine_same hb k).1 h2)
end Go.Proofs.Ytdhgallfplbhpaa
