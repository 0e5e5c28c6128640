/- Appending texts to a row that may begin inside its block; Push. Conditions: the texts read; few. -/
import Derived.Test.YtjhpeelgehchiaaSub
import Derived.Deep.AppendLies
import Derived.Deep.RegionLaw
namespace Go.Proofs.Ytjhpeelgehchiaa
open Go.RowKit Go.Proofs.YtjhpeelgehchiaaW.PrintWords
set_option linter.unusedVariables false

/-- Texts that came in. -/
def Src (w : World) (a : Option Addr) (m : Nat) (ys : List ByteArray) : Prop :=
  ys.length = m ∧ (0 < m → ∃ ad, a = some ad ∧ ∀ j u, (strs ys)[j]? = some u → w.cell? (ad.add j) = some u)
theorem Src.move {w w1 : World} {a : Option Addr} {m : Nat} {ys : List ByteArray} (h : Src w a m ys) (hc : ∀ ad u, w.cell? ad = some u → (∀ b, a = some b → ad.block = b.block) → w1.cell? ad = some u) : Src w1 a m ys := by
  refine ⟨h.1, fun hm => ?_⟩
  obtain ⟨ad, rfl, hr⟩ := h.2 hm
  refine ⟨ad, rfl, fun j u hj => hc _ u (hr j u hj) fun b hb => ?_⟩
  injection hb with hb
  subst hb
  unfold Addr.add
  split <;> rfl
theorem strs_one (l : List ByteArray) : ∀ u ∈ strs l, u.oneCell' = true := by
  intro u hu
  obtain ⟨s, _, rfl⟩ := List.mem_map.1 hu
  rfl
theorem info9 : (Try.prog.info? 9).map (fun i => (i.zero, i.size, i.bytes)) = some (some (.string ⟨#[]⟩), 1, 16) := by kernel_rfl
theorem under35 : Try.prog.underlying 35 = some (.slice 9) := by kernel_rfl
theorem run_push (w : World) (ty : TypeId) (v : Value) (n : Nat) (xs : List ByteArray) (hown : QRow w 0 9 1 v n (strs xs)) (a : Option Addr) (m c : Nat) (ys : List ByteArray) (hs : Src w a m ys) (hle : n + m ≤ 5000) :
    ∃ A' c' w', (Builtin.append_ #[35, 35] ty #[v, .slice a m c]).run Try.prog w = .ok (.slice A' (n + m) c') w' ∧ QRow w' 0 9 1 (.slice A' (n + m) c') (n + m) (strs (xs ++ ys)) ∧ w.grownBy w' v.ownBlock ∧
      ((Value.slice A' (n + m) c').ownBlock = v.ownBlock ∨ ∃ b, (Value.slice A' (n + m) c').ownBlock = some b ∧ w.heap.size ≤ b) := by
  obtain ⟨i, hi, hz⟩ := Option.map_eq_some_iff.1 info9
  simp only [Prod.mk.injEq] at hz
  obtain ⟨hz0, hz1, hz2⟩ := hz
  by_cases hm : m = 0
  · subst hm
    have hy : ys = [] := List.eq_nil_of_length_eq_zero hs.1
    subst hy
    obtain ⟨A, cc, rfl, hnc⟩ := q_slice hown
    refine ⟨A, cc, w, ?_, by simpa using hown, ⟨rfl, rfl, rfl, Nat.le_refl _, fun _ _ _ => rfl⟩, .inl ?_⟩
    · cases A <;> cases a <;> simp [Builtin.append_, run_underlying under35, sizeOf, typeInfo, hi, Builtin.lenOf, Builtin.firstCells, loadCells, loadCellsFrom, hnc, storeCells]
    · rfl
  · obtain ⟨ad, rfl, hr⟩ := hs.2 (by omega)
    obtain ⟨v', w', hrun, hq, hg, hat⟩ := q_append (P := Try.prog) w 0 35 ty 9 i _ 1 16 under35 hi hz0 hz1 hz2 rfl (by decide) v n (strs xs) hown ad m c (strs ys) (by rw [strs_length, hs.1, Nat.mul_one]) hr (strs_one ys) (by omega) (by unfold maxLen; omega) (by omega) (Nat.zero_le _)
    obtain ⟨A', c', rfl, _⟩ := q_slice hq
    exact ⟨A', c', w', hrun, by rw [strs_append]; exact hq, hg, hat⟩
section
variable {P : Program}
theorem step_push {ops : Array Oper} {o : Oper} {a : Act} {K : Act → World → Prop} {Q : Exit → Act → World → Prop} {E : Prop} {w : World} (hgd : o.guard = none) (s x : Operand)
    (ho : o.op = .call { callee := .builtin .append, args := #[s, x], argTypes := #[35, 35] })
    (v : Value) (n : Nat) (xs : List ByteArray) (hs : a.eval s = v) (hown : QRow w 0 9 1 v n (strs xs))
    (ad : Option Addr) (m c : Nat) (ys : List ByteArray) (hx : a.eval x = .slice ad m c) (hsrc : Src w ad m ys) (hle : n + m ≤ 5000)
    (h : ∀ A' c' w', QRow w' 0 9 1 (.slice A' (n + m) c') (n + m) (strs (xs ++ ys)) → w.grownBy w' v.ownBlock → ((Value.slice A' (n + m) c').ownBlock = v.ownBlock ∨ ∃ b, (Value.slice A' (n + m) c').ownBlock = some b ∧ w.heap.size ≤ b) → K (a.put o.dst (.slice A' (n + m) c')) w') :
    if Region.wanted o (yielded ops a.tmps) = true then Oper.wp Try.prog o a w K Q else E := by
  have hw : Region.wanted o (yielded ops a.tmps) = true := by simp [Region.wanted, hgd]
  rw [if_pos hw]
  obtain ⟨A', c', w', hr, h1, h2, h3⟩ := run_push w o.type v n xs hown ad m c ys hsrc hle
  unfold Oper.wp execOp
  simp only [ho, resolve, invoke, builtin, Sem.run_bind, Sem.run_pure, Result.andThen_ok, List.map_toArray, List.map_cons, List.map_nil, hs, hx, hr]
  exact h A' c' w' h1 h2 h3
end
end Go.Proofs.Ytjhpeelgehchiaa
