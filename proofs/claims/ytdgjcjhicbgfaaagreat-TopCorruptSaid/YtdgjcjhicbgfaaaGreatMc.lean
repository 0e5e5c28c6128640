/- Calls whose arguments are known: what the machine answers without memory. Conditions: none but those that the lemmas name. -/
import Derived.Test.YtdgjcjhicbgfaaaGreatMf
set_option linter.unusedVariables false
set_option linter.unusedSimpArgs false
set_option linter.unusedSimpArgs false
set_option linter.unusedVariables false
set_option maxRecDepth 100000
namespace Go.Proofs.YtdgjcjhicbgfaaaGreat
open Go.RowKit
/-- The machine with nothing known beforehand. -/
noncomputable def Cn : Cfg := ⟨Tryz.prog, tabT, tabF, fun _ => none⟩
theorem cn_ok : COk Cn := ⟨tabT_ok, fun f fn hf => ⟨tabF_ok hf, tabF_named hf⟩, fun f g h => (by cases h), mixed_ok⟩
theorem rel_nil (w : World) : Rel w.heap.size (fun _ => none) ⟨.nil, 0⟩ w := by
  refine ⟨fun b o h => ?_, fun b b' o o' k s s' c c' h => ?_, ?_, fun b o h => ?_, Nat.le_refl _⟩
  · rw [Tr.get_nil] at h; cases h
  · rw [Tr.get_nil] at h; cases h
  · rintro k ⟨b, o, s, c, h, _⟩
    rw [Tr.get_nil] at h; cases h
  · rw [Tr.get_nil] at h; cases h
theorem live_nil {w : World} {k : Nat} (h : Live (fun _ => none) ⟨.nil, 0⟩ k) : False := by
  obtain ⟨b, o, s, c, h, _⟩ := h
  rw [Tr.get_nil] at h; cases h
theorem run_below {w : World} {ν' : Nu} {σ' : St} {w' : World} (h : Run (fun _ => none) ⟨.nil, 0⟩ w ν' σ' w') : Below w.heap.size w w' :=
  ⟨h.os, h.tape, h.output, h.size, fun k hk => h.keep k hk fun hl => live_nil (w := w) hl⟩
theorem known_calls {C : Cfg} (hC : COk C) {n f : Nat} {args : List AV} {v : AV} (h : ((callA C n f args ⟨.nil, 0⟩).map (·.1)).map (AV.eqb v) = some true) {vs : List Value} (ha : AV.concL (fun _ => none) args = some vs) {c : Value} (hv : ∀ ν, v.conc ν = some c) (w : World) :
    Calls C.P f vs.toArray w fun e w' => e = .returned c ∧ Below w.heap.size w w' := by
  rw [Option.map_map, Option.map_eq_some_iff] at h
  obtain ⟨⟨v', σ'⟩, h1, h2⟩ := h
  have := AV.eqb_ok _ _ h2
  simp only at this
  subst this
  refine (callA_ok hC h1 (rel_nil w) (fun b _ => rfl) ha).mono ?_
  rintro e w' ⟨ν', c', rfl, g1, g2, g3⟩
  rw [hv ν'] at g1
  cases g1
  exact ⟨rfl, run_below g3⟩
def macL : Array Value := #[.int .u8 3, .int .u8 0, .int .u8 0, .int .u8 0, .int .u8 0, .int .u8 10]
def macS (net : Int) : Array Value := #[.int .u8 2, .int .u8 0, .int .u8 0, .int .u8 0, .int .u8 0, .int .u8 (if net = 0 then 32 else 64)]
theorem link_calls (w : World) : Calls Tryz.prog 139 #[.int .i64 10] w fun e w' => e = .returned (.tuple #[.agg macL, .int .i64 0]) ∧ Below w.heap.size w w' :=
  known_calls (C := Cn) cn_ok (n := 60) (args := [.int .i64 10]) (v := .tup [.agg [.int .u8 3, .int .u8 0, .int .u8 0, .int .u8 0, .int .u8 0, .int .u8 10], .int .i64 0]) (by kernel_rfl) (vs := [.int .i64 10]) rfl (fun _ => rfl) w
theorem source_calls (net : Int) (hn : net = 0 ∨ net = 1) (w : World) : Calls Tryz.prog 140 #[.agg #[.int .i64 0, .int .i64 net]] w fun e w' => e = .returned (.tuple #[.agg (macS net), .int .i64 0]) ∧ Below w.heap.size w w' := by
  rcases hn with rfl | rfl
  · exact known_calls (C := Cn) cn_ok (n := 60) (args := [.agg [.int .i64 0, .int .i64 0]]) (v := .tup [.agg [.int .u8 2, .int .u8 0, .int .u8 0, .int .u8 0, .int .u8 0, .int .u8 32], .int .i64 0]) (by kernel_rfl) (vs := [.agg #[.int .i64 0, .int .i64 0]]) rfl (fun _ => rfl) w
  · exact known_calls (C := Cn) cn_ok (n := 60) (args := [.agg [.int .i64 0, .int .i64 1]]) (v := .tup [.agg [.int .u8 2, .int .u8 0, .int .u8 0, .int .u8 0, .int .u8 0, .int .u8 64], .int .i64 0]) (by kernel_rfl) (vs := [.agg #[.int .i64 0, .int .i64 1]]) rfl (fun _ => rfl) w
theorem vl_calls (w : World) : Calls Tryz.prog 201 #[.agg macL] w fun e w' => e = .returned (.tuple #[.int .i64 10, .int .i64 0]) ∧ Below w.heap.size w w' :=
  known_calls (C := Cn) cn_ok (n := 60) (args := [.agg [.int .u8 3, .int .u8 0, .int .u8 0, .int .u8 0, .int .u8 0, .int .u8 10]]) (v := .tup [.int .i64 10, .int .i64 0]) (by kernel_rfl) (vs := [.agg macL]) rfl (fun _ => rfl) w
theorem of_calls (net : Int) (hn : net = 0 ∨ net = 1) (w : World) : Calls Tryz.prog 202 #[.agg (macS net)] w fun e w' => e = .returned (.tuple #[.agg #[.int .i64 0, .int .i64 net], .int .i64 0]) ∧ Below w.heap.size w w' := by
  rcases hn with rfl | rfl
  · exact known_calls (C := Cn) cn_ok (n := 60) (args := [.agg [.int .u8 2, .int .u8 0, .int .u8 0, .int .u8 0, .int .u8 0, .int .u8 32]]) (v := .tup [.agg [.int .i64 0, .int .i64 0], .int .i64 0]) (by kernel_rfl) (vs := [.agg (macS 0)]) rfl (fun _ => rfl) w
  · exact known_calls (C := Cn) cn_ok (n := 60) (args := [.agg [.int .u8 2, .int .u8 0, .int .u8 0, .int .u8 0, .int .u8 0, .int .u8 64]]) (v := .tup [.agg [.int .i64 0, .int .i64 1], .int .i64 0]) (by kernel_rfl) (vs := [.agg (macS 1)]) rfl (fun _ => rfl) w
end Go.Proofs.YtdgjcjhicbgfaaaGreat
