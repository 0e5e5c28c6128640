/- A row of texts that grows. Conditions: it is short. -/
import Derived.Test.YtdgjcjhicbgfaaaGreatMg
set_option linter.unusedVariables false
set_option linter.unusedSimpArgs false
namespace Go.Proofs.YtdgjcjhicbgfaaaGreat
open Go.RowKit Go.Lib
set_option linter.unusedVariables false
set_option linter.unusedSimpArgs false
set_option maxRecDepth 20000

theorem strinfo : (Tryz.prog.info? 9).map (fun i => (i.zero, i.size, i.bytes)) = some (some (.string ⟨#[]⟩), 1, 16) := by kernel_rfl
theorem under22 : Tryz.prog.underlying 22 = some (.slice 9) := by kernel_rfl
def strs (gs : List ByteArray) : List Value := gs.map .string
/-- A row of texts: nothing yet, or a block of its own. -/
def Got (w : World) (gs : List ByteArray) (v : Value) : Prop :=
  (v = .slice none 0 0 ∧ gs = []) ∨ ∃ (g cap : Nat) (cs : Array Value) (fr : Nat × Nat), v = .slice (some ⟨g, 0, none⟩) gs.length cap ∧ w.heap[g]? = some (.cells cs 9 fr) ∧ cap ≤ cs.size ∧ gs.length ≤ cap ∧ (∀ (j : Nat) (s : ByteArray), gs[j]? = some s → cs[j]? = some (.string s)) ∧ ∀ i, i < cs.size → ¬ (fr.1 ≤ i ∧ i < fr.2)
theorem Got.keep {w w' : World} {gs : List ByteArray} {v : Value} (h : Got w gs v) (hk : ∀ g, v.ownBlock = some g → w'.heap[g]? = w.heap[g]?) : Got w' gs v := by
  rcases h with h | ⟨g, cap, cs, fr, rfl, h1, h2⟩
  · exact .inl h
  · exact .inr ⟨g, cap, cs, fr, rfl, (hk g rfl).trans h1, h2⟩
theorem Got.lt {w : World} {gs : List ByteArray} {v : Value} (h : Got w gs v) {g : Nat} (hg : v.ownBlock = some g) : g < w.heap.size := by
  rcases h with ⟨rfl, _⟩ | ⟨g', cap, cs, fr, rfl, h1, h2⟩
  · cases hg
  · cases hg; exact (Array.getElem?_eq_some_iff.1 h1).1
theorem Got.slice {w : World} {gs : List ByteArray} {v : Value} (h : Got w gs v) : ∃ A c, v = .slice A gs.length c := by
  rcases h with ⟨rfl, rfl⟩ | ⟨g, cap, cs, fr, rfl, _⟩
  · exact ⟨_, _, rfl⟩
  · exact ⟨_, _, rfl⟩
theorem Got.cell {w : World} {gs : List ByteArray} {v : Value} (h : Got w gs v) {j : Nat} {s : ByteArray} (hj : gs[j]? = some s) : ∃ g c, v = .slice (some ⟨g, 0, none⟩) gs.length c ∧ w.cell? ⟨g, j, none⟩ = some (.string s) := by
  rcases h with ⟨_, rfl⟩ | ⟨g, cap, cs, fr, rfl, h1, h2, h3, h4, h5⟩
  · simp at hj
  · exact ⟨g, cap, rfl, by rw [cell_of_row w g j cs 9 fr h1]; exact h4 j s hj⟩
/-- What an append leaves. -/
structure Grew (w w' : World) (v v' : Value) : Prop where
  upon : Upon (fun g => v.ownBlock = some g) w w'
  own : ∀ g, v'.ownBlock = some g → v.ownBlock = some g ∨ w.heap.size ≤ g
theorem run_got {w : World} {gs : List ByteArray} {v : Value} (h : Got w gs v) {ad : Addr} {y : ByteArray} (hc : w.cell? ad = some (.string y)) (hl : gs.length ≤ 100) :
    ∃ A m q w', (Builtin.append_ #[22, 22] 22 #[v, .slice (some ad) 1 1]).run Tryz.prog w = .ok (.slice A m q) w' ∧ Got w' (gs ++ [y]) (.slice A m q) ∧ Grew w w' v (.slice A m q) := by
  obtain ⟨i, hi, hz⟩ := Option.map_eq_some_iff.1 strinfo
  simp only [Prod.mk.injEq] at hz
  obtain ⟨hz0, hz1, hz2⟩ := hz
  have hnew : ∀ w', w'.heap = w.heap → (Builtin.firstCells i.size 1 (.slice (some ad) 1 1)).run Tryz.prog w' = .ok [Value.string y].toArray w' := by
    intro w' hw
    have hh : w'.cell? ad = w.cell? ad := World.cell?_of_block (by rw [hw])
    refine run_firstCells_some (P := Tryz.prog) w' i.size 1 ad 1 1 [.string y] (by rw [hz1]; rfl) ?_
    intro j u hj
    match j, hj with
    | 0, hj =>
      simp at hj; subst hj
      have e : ad.add 0 = ad := by unfold Addr.add; simp
      rw [e, hh]
      exact hc
    | (j + 1), hj => simp at hj
  have hlen : ∀ w', (Builtin.lenOf (.slice (some ad) 1 1)).run Tryz.prog w' = .ok 1 w' := by
    intro w'
    simp [Builtin.lenOf, Sem.run_pure]
  have hu22 := under22
  have hold : ∀ w', w'.heap = w.heap → (Builtin.firstCells i.size gs.length v).run Tryz.prog w' = .ok (strs gs).toArray w' := by
    intro w' hw
    rcases h with ⟨rfl, rfl⟩ | ⟨g, cap, cs, fr, rfl, h2, h3, h4, h5, h6⟩
    · simp [Builtin.firstCells, strs, loadCells, loadCellsFrom]
    · refine run_firstCells_some (P := Tryz.prog) w' i.size gs.length ⟨g, 0, none⟩ gs.length cap (strs gs) (by rw [hz1]; simp [strs]) ?_
      intro j u hj
      have e : (⟨g, 0, none⟩ : Addr).add j = ⟨g, j, none⟩ := by unfold Addr.add; split <;> simp_all
      rw [e, cell_of_row w' g j cs 9 fr (by rw [hw]; exact h2)]
      unfold strs at hj
      rw [List.getElem?_map] at hj
      obtain ⟨b, hb, rfl⟩ := Option.map_eq_some_iff.1 hj
      exact h5 j b hb
  have hfresh : ∀ (cap : Nat) (hv : ∃ A, v = .slice A gs.length cap), cap < gs.length + 1 → ∃ A m q w', (Builtin.append_ #[22, 22] 22 #[v, .slice (some ad) 1 1]).run Tryz.prog w = .ok (.slice A m q) w' ∧ Got w' (gs ++ [y]) (.slice A m q) ∧ Grew w w' v (.slice A m q) := by
    rintro cap ⟨A, rfl⟩ hcap
    obtain ⟨cap', hcap', hr⟩ := run_append_fresh (P := Tryz.prog) (w := w) (ats := #[22, 22]) (ty := 22) (args := #[.slice A gs.length cap, .slice (some ad) 1 1]) (z := .string ⟨#[]⟩) (i := i) rfl rfl hu22 hu22 (fun k => by intro hh; cases hh) hi hz0 rfl rfl hlen hold hnew (by omega) (by omega) (by rw [hz2]; exact growslice_fits (by omega) (by omega))
    refine ⟨_, _, _, _, hr, ?_, ?_⟩
    · right
      refine ⟨w.heap.size, cap', (strs gs).toArray ++ [Value.string y].toArray ++ Builtin.zeroCells (Value.string ⟨#[]⟩).cells (cap' - (gs.length + 1)), (0, 0), by simp, ?_, ?_, by simpa using hcap', ?_, ?_⟩
      · show (w.heap.push _)[w.heap.size]? = _
        rw [Array.getElem?_push_size]
      · have hz1 : (Value.string ⟨#[]⟩).cells.size = 1 := rfl
        simp only [Array.size_append, List.size_toArray, size_zeroCells, hz1]
        simp [strs]
        omega
      · intro j b hj
        have hlt := (List.getElem?_eq_some_iff.1 hj).1
        rw [Array.getElem?_append_left (by simp [strs]; simpa using hlt)]
        have e : (strs gs).toArray ++ [Value.string y].toArray = (strs (gs ++ [y])).toArray := by
          simp [strs]
        rw [e]
        unfold strs
        rw [List.getElem?_toArray, List.getElem?_map, hj]
        rfl
      · intro i hi hh
        exact Nat.not_lt_zero i hh.2
    · refine ⟨⟨rfl, rfl, rfl, by simp, fun k hk _ => ?_⟩, fun g hg => .inr ?_⟩
      · show (w.heap.push _)[k]? = w.heap[k]?
        rw [Array.getElem?_push_lt hk, Array.getElem?_eq_getElem hk]
      · simp [Value.ownBlock] at hg; omega
  rcases h with ⟨rfl, rfl⟩ | ⟨g, cap, cs, fr, rfl, h2, h3, h4, h5, h6⟩
  · exact hfresh 0 ⟨none, rfl⟩ (by simp)
  · by_cases hroom : gs.length + 1 ≤ cap
    · obtain ⟨w', cs', g1, g2, g3, g4⟩ := store_cells (P := Tryz.prog) gs.length [Value.string y] 0 w cs h2 (by simp; omega) (fun j p q => h6 j (by simp at q; omega)) (by intro u hu; simp at hu; subst hu; rfl)
      refine ⟨_, _, _, w', run_append_place (P := Tryz.prog) (w := w) (w' := w') (ats := #[22, 22]) (ty := 22) (args := #[.slice (some ⟨g, 0, none⟩) gs.length cap, .slice (some ad) 1 1]) rfl rfl hu22 hu22 (fun k => by intro hh; cases hh) hi rfl rfl hlen (hnew w rfl) hroom ?_, ?_, ?_⟩
      · simp only
        rw [hz1, Nat.mul_one]
        have e : (⟨g, 0, none⟩ : Addr).add gs.length = ⟨g, gs.length, none⟩ := by unfold Addr.add; split <;> simp_all
        rw [e]
        exact g1
      · right
        refine ⟨g, cap, cs', fr, by simp, g2.row, by rw [g3]; exact h3, by simpa using hroom, ?_, by rw [g3]; exact h6⟩
        intro j b hj
        rw [g4 j]
        by_cases e : j < gs.length
        · rw [if_neg (by simp; omega)]
          rw [List.getElem?_append_left e] at hj
          exact h5 j b hj
        · rw [List.getElem?_append_right (by omega)] at hj
          have : j = gs.length := by
            have := (List.getElem?_eq_some_iff.1 hj).1
            simp at this; omega
          subst this
          simp at hj
          subst hj
          rw [if_pos (by simp)]
          simp
      · refine ⟨⟨g2.os, g2.tape, g2.output, by rw [g2.size]; exact Nat.le_refl _, fun k hk hn => g2.far k (fun e => hn (by subst e; rfl))⟩, fun j hj => .inl ?_⟩
        simpa [Value.ownBlock] using hj
    · exact hfresh cap ⟨_, rfl⟩ (by omega)
theorem cell_new_str (w : World) (x : Value) (t : TypeId) : (w.alloc (.cells #[x] t)).cell? ⟨w.heap.size, 0, none⟩ = some x := (Blk.new w t #[x]).cell 0
theorem wpList_got {ops : Array Oper} {rest : List Oper} {o : Oper} {a : Act} {Q : Exit → Act → World → Prop} (hgd : o.guard = none) (s x : Operand) (hty : o.type = 22)
    (ho : o.op = .call { callee := .builtin .append, args := #[s, x], argTypes := #[22, 22] })
    {wr : World} {v : Value} {gs : List ByteArray} (h : Got wr gs v) (hl : gs.length ≤ 100) (m : ByteArray) (hs : a.eval s = v) (hx : a.eval x = .slice (some ⟨wr.heap.size, 0, none⟩) 1 1)
    (k : ∀ A n q w1, Got w1 (gs ++ [m]) (.slice A n q) → Grew wr w1 v (.slice A n q) → wpList Tryz.prog ops Q rest (a.put o.dst (.slice A n q)) w1) : wpList Tryz.prog ops Q (o :: rest) a (wr.alloc (.cells #[.string m] 9)) := by
  have hb := (Below.refl wr.heap.size wr).alloc (Nat.le_refl _) (.cells #[.string m] 9)
  have h' : Got (wr.alloc (.cells #[.string m] 9)) gs v := h.keep fun g hg => hb.block g (h.lt hg)
  obtain ⟨A, n, q, w1, hr, g1, g2⟩ := run_got (ad := ⟨wr.heap.size, 0, none⟩) (y := m) h' (cell_new_str _ _ _) hl
  refine Lib.wpList_append_run _ hgd s x 22 22 ho v _ hs hx (.slice A n q) w1 (by rw [hty]; exact hr) ?_
  refine k A n q w1 g1 ⟨?_, fun g hg => ?_⟩
  · exact (Upon.of_below (S := fun g => v.ownBlock = some g) hb).trans g2.upon
  · rcases g2.own g hg with h1 | h1
    · exact .inl h1
    · exact .inr (Nat.le_trans hb.size h1)
end Go.Proofs.YtdgjcjhicbgfaaaGreat
