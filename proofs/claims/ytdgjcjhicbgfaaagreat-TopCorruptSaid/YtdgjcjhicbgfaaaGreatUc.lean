/- The two ends made; what has gone. Conditions: that the machine's calls are the program's. -/
import Derived.Test.YtdgjcjhicbgfaaaGreatUb
import Derived.Test.YtdgjcjhicbgfaaaGreatMc
set_option linter.unusedVariables false
set_option linter.unusedSimpArgs false
set_option linter.unusedSimpArgs false
set_option linter.unusedVariables false
namespace Go.Proofs.YtdgjcjhicbgfaaaGreat
open Go.RowKit

theorem sX_some : ∃ σ, sX = some σ := by
  obtain ⟨x, hx⟩ := send_all (n := 0) (by omega)
  cases h : sX with
  | none => unfold sendS at hx; rw [h] at hx; cases hx
  | some σ => exact ⟨σ, rfl⟩
theorem sT_some : ∃ σ, sT = some σ := by
  obtain ⟨x, hx⟩ := sX_some
  cases h : sT with
  | none => unfold sX at hx; rw [h] at hx; cases hx
  | some σ => exact ⟨σ, rfl⟩
theorem sB_some : ∃ σ, sB = some σ := by
  obtain ⟨x, hx⟩ := sT_some
  cases h : sB with
  | none => unfold sT at hx; rw [h] at hx; cases hx
  | some σ => exact ⟨σ, rfl⟩
theorem below_run {base : Nat} {ν ν' : Nu} {σ σ' : St} {w w' : World} (r : Rel base ν σ w) (q : Run ν σ w ν' σ' w') : Below base w w' :=
  ⟨q.os, q.tape, q.output, q.size, fun j hj => q.keep j (by have := r.size; omega) (fun hl => by have := r.own j hl; omega)⟩
theorem upon_run {ν ν' : Nu} {σ σ' : St} {w w' : World} {L : Nat → Prop} (hL : ∀ k, Live ν σ k → L k) (q : Run ν σ w ν' σ' w') : Upon L w w' :=
  ⟨q.os, q.tape, q.output, q.size, fun j hj hn => q.keep j hj (fun hl => hn (hL j hl))⟩
structure CfgAt (base : Nat) (cs : Array Value) (L : Nat → Prop) (w : World) : Prop where
  mk :: (out : ∃ σ ν, sB = some σ ∧ Rel base ν σ w ∧ Top ν σ ∧ cfgA.conc ν = some (.agg cs) ∧ ∀ k, Live ν σ k → L k)
structure TxAt (base : Nat) (cs : Array Value) (tv : Value) (L : Nat → Prop) (w : World) : Prop where
  mk :: (out : ∃ σ ν, sT = some σ ∧ Rel base ν σ w ∧ Top ν σ ∧ cfgA.conc ν = some (.agg cs) ∧ txA.conc ν = some tv ∧ ∀ k, Live ν σ k → L k)
theorem CfgAt.grow {base : Nat} {cs : Array Value} {L : Nat → Prop} {w w' : World} (h : CfgAt base cs L w) (g : Grow w w') : CfgAt base cs L w' := by
  obtain ⟨σ, ν, h1, r, ht, h2, h3⟩ := h.out
  exact ⟨σ, ν, h1, r.grow g, ht, h2, h3⟩
theorem CfgAt.upon {base : Nat} {cs : Array Value} {L S : Nat → Prop} {w w' : World} (h : CfgAt base cs L w) (u : Upon S w w') (hd : ∀ k, L k → ¬ S k) : CfgAt base cs L w' := by
  obtain ⟨σ, ν, h1, r, ht, h2, h3⟩ := h.out
  exact ⟨σ, ν, h1, r.beside u.size (fun k hk => u.block k (r.live_lt hk) (hd k (h3 k hk))), ht, h2, h3⟩
theorem TxAt.upon {base : Nat} {cs : Array Value} {tv : Value} {L S : Nat → Prop} {w w' : World} (h : TxAt base cs tv L w) (u : Upon S w w') (hd : ∀ k, L k → ¬ S k) : TxAt base cs tv L w' := by
  obtain ⟨σ, ν, h1, r, ht, h2, h3, h4⟩ := h.out
  exact ⟨σ, ν, h1, r.beside u.size (fun k hk => u.block k (r.live_lt hk) (hd k (h4 k hk))), ht, h2, h3, h4⟩
theorem cfg_conc {ν : Nu} {c : Value} (h : cfgA.conc ν = some c) : ∃ (a1 a2 a3 a4 : Option Addr) (c3 c4 : Nat), c = .agg #[.int .i64 3, .slice a1 3 3, .int .i64 1000, .slice a2 3 3, .slice a3 1 c3, .slice a4 4 c4] := by
  obtain ⟨l, h1, rfl⟩ := conc_agg h
  obtain ⟨v1, l1, g1, g2, rfl⟩ := concL_cons h1
  obtain ⟨v2, l2, g3, g4, rfl⟩ := concL_cons g2
  obtain ⟨v3, l3, g5, g6, rfl⟩ := concL_cons g4
  obtain ⟨v4, l4, g7, g8, rfl⟩ := concL_cons g6
  obtain ⟨v5, v6, g9, g10, rfl⟩ := concL_inv2 g8
  cases g1
  cases g5
  obtain ⟨_, _, _, _, rfl⟩ := conc_sl g3
  obtain ⟨_, _, _, _, rfl⟩ := conc_sl g7
  obtain ⟨_, _, _, _, _, rfl⟩ := conc_slu g9
  obtain ⟨_, _, _, _, _, rfl⟩ := conc_slu g10
  exact ⟨_, _, _, _, _, _, rfl⟩
theorem built_ok (hC : COk C1) (w : World) : Calls Tryz.prog 4 #[.agg #[.int .i64 0, .int .i64 120, .int .i64 0]] w fun e w' =>
    ∃ (a1 a2 a3 a4 : Option Addr) (c3 c4 : Nat), e = .returned (.agg #[.int .i64 3, .slice a1 3 3, .int .i64 1000, .slice a2 3 3, .slice a3 1 c3, .slice a4 4 c4]) ∧
      CfgAt w.heap.size #[.int .i64 3, .slice a1 3 3, .int .i64 1000, .slice a2 3 3, .slice a3 1 c3, .slice a4 4 c4] (fun k => k < w'.heap.size) w' ∧ Below w.heap.size w w' := by
  obtain ⟨σ, hσ⟩ := sB_some
  have h := hσ
  unfold sB at h
  refine (callA_ok hC (runTo_some h) (rel_nil w) (fun b _ => rfl) (vs := [.agg #[.int .i64 0, .int .i64 120, .int .i64 0]]) rfl).mono ?_
  rintro e w' ⟨ν', c, rfl, k1, k2, k3⟩
  obtain ⟨a1, a2, a3, a4, c3, c4, rfl⟩ := cfg_conc k1
  have ht : Top (fun _ => none) ⟨.nil, 0⟩ := fun b _ => rfl
  exact ⟨a1, a2, a3, a4, c3, c4, rfl, ⟨σ, ν', hσ, k2, ht.run k3, k1, fun k hk => k2.live_lt hk⟩, run_below k3⟩
theorem tx_ok (hC : COk C1) {base : Nat} {cs : Array Value} {L : Nat → Prop} {w : World} (h : CfgAt base cs L w) : Calls Tryz.prog 5 #[.agg cs, .int .i64 0] w fun e w' =>
    ∃ tb tf, e = .returned (.tuple #[.pointer (some ⟨tb, tf, none⟩), .int .i64 0]) ∧ TxAt base cs (.pointer (some ⟨tb, tf, none⟩)) (fun k => L k ∨ w.heap.size ≤ k) w' ∧ Upon L w w' ∧ Below base w w' := by
  obtain ⟨σ, ν, h1, r, ht, h2, h3⟩ := h.out
  obtain ⟨σ2, hσ⟩ := sT_some
  have h4 := hσ
  unfold sT at h4
  rw [h1] at h4
  refine (callA_ok hC (runTo_some h4) r ht (concL_mk h2 (concL_mk rfl (concL_nil _)))).mono ?_
  rintro e w' ⟨ν', c, rfl, k1, k2, k3⟩
  obtain ⟨l, k4, rfl⟩ := conc_tup k1
  obtain ⟨v1, v2, k5, k6, rfl⟩ := concL_inv2 k4
  cases k6
  obtain ⟨k, s, n, _, rfl⟩ := conc_ptr k5
  refine ⟨k, s + 0, rfl, ⟨σ2, ν', hσ, k2, ht.run k3, AV.conc_mono k3.le _ _ h2, k5, fun j hj => ?_⟩, upon_run h3 k3, below_run r k3⟩
  rcases k3.fresh j hj with h | h
  · exact .inl (h3 j h)
  · exact .inr h
theorem rx_ok (hC : COk C1) {base : Nat} {cs : Array Value} {tv : Value} {L : Nat → Prop} {w : World} (h : TxAt base cs tv L w) : Calls Tryz.prog 6 #[.agg cs, .int .i64 1] w fun e w' =>
    ∃ rb ro, e = .returned (.tuple #[.pointer (some ⟨rb, ro, none⟩), .int .i64 0]) ∧ SendAt base 0 [] tv (.pointer (some ⟨rb, ro, none⟩)) w' ∧ Below base w w' := by
  obtain ⟨σ, ν, h1, r, ht, h2, h3, h5⟩ := h.out
  obtain ⟨σ2, hσ⟩ := sX_some
  have h4 := hσ
  unfold sX at h4
  rw [h1] at h4
  refine (callA_ok hC (runTo_some h4) r ht (concL_mk h2 (concL_mk rfl (concL_nil _)))).mono ?_
  rintro e w' ⟨ν', c, rfl, k1, k2, k3⟩
  obtain ⟨l, k4, rfl⟩ := conc_tup k1
  obtain ⟨v1, v2, k5, k6, rfl⟩ := concL_inv2 k4
  cases k6
  obtain ⟨k, s, n, _, rfl⟩ := conc_ptr k5
  refine ⟨k, s + 0, rfl, ⟨σ2, [], ν', ?_, k2, ht.run k3, trivial, AV.conc_mono k3.le _ _ h3, k5⟩, below_run r k3⟩
  unfold sendS
  rw [hσ]
end Go.Proofs.YtdgjcjhicbgfaaaGreat
