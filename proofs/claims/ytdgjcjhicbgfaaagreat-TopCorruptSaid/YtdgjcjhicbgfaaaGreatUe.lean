/- A frame taken on both networks, in the world. Conditions: that the machine's calls are the program's. -/
import Derived.Test.YtdgjcjhicbgfaaaGreatUd
import Derived.Test.YtdgjcjhicbgfaaaGreatRb
import Derived.Test.YtdgjcjhicbgfaaaGreatRc
import Derived.Test.YtdgjcjhicbgfaaaGreatRd
import Derived.Test.YtdgjcjhicbgfaaaGreatRe
set_option linter.unusedVariables false
set_option linter.unusedSimpArgs false
set_option linter.unusedSimpArgs false
set_option linter.unusedVariables false
namespace Go.Proofs.YtdgjcjhicbgfaaaGreat
open Go.RowKit

theorem takes_ten {x : Nat} (h : x ≤ 10) : isS (stR x 10) = true := by
  have hh : x = 0 ∨ x = 1 ∨ x = 2 ∨ x = 3 ∨ x = 4 ∨ x = 5 ∨ x = 6 ∨ x = 7 ∨ x = 8 ∨ x = 9 ∨ x = 10 := by omega
  rcases hh with rfl | rfl | rfl | rfl | rfl | rfl | rfl | rfl | rfl | rfl | rfl
  · exact takes0
  · exact takes1
  · exact takes2
  · exact takes3
  · exact takes4
  · exact takes5
  · exact takes6
  · exact takes7
  · exact takes8
  · exact takes9
  · exact takes10
theorem stR_down {x : Nat} : ∀ {d k : Nat}, isS (stR x (k + d)) = true → isS (stR x k) = true
  | 0, k, h => h
  | d + 1, k, h => by
    refine stR_down (d := d) ?_
    have h2 : isS (stR x (k + d + 1)) = true := h
    cases hs : stR x (k + d) with
    | none => unfold stR at h2; rw [hs] at h2; cases h2
    | some σ => rfl
theorem takes_all {x k : Nat} (hx : x ≤ 10) (hk : k ≤ 10) : ∃ σ, stR x k = some σ := by
  refine isS_some (stR_down (d := 10 - k) ?_)
  rw [show k + (10 - k) = 10 by omega]
  exact takes_ten hx
/-- The receiver behind the first network's copy. -/
structure Mid (base x k : Nat) (rv : Value) (z : Int) (s tb : ByteArray) (L : Nat → Prop) (w : World) : Prop where
  mk :: (out : ∃ σ6 σ7 ν tk m b, takeR σ6 k 1 (Nat.beq k x) tk m b = some σ7 ∧ stR x (k + 1) = some σ7 ∧ Rel base ν σ6 w ∧ Top ν σ6 ∧ rxA.conc ν = some rv ∧ (tickAt tk k 1).conc ν = some (.int .i64 (z + (12500 * (k : Int) + 20 + (1 : Nat)))) ∧ b.conc ν = some (.string tb) ∧ (Nat.beq k x = false → m.conc ν = some (.string s)) ∧ ∀ j, Live ν σ6 j → L j)
/-- What a Take answers. -/
def Answers (is : Bool) (s : ByteArray) (e : Ending) : Prop :=
  ∃ (p q er : Int) (dv : ByteArray), e = .returned (.tuple #[.agg #[.int .i64 p, .int .i64 q, .string dv], .bool is, .int .i64 er]) ∧ (is = true → dv = s)
def grown (L : Nat → Prop) (w : World) : Nat → Prop := fun j => L j ∨ w.heap.size ≤ j
theorem take0 (hC : COk C1) {base x k : Nat} {rv : Value} {L : Nat → Prop} {w : World} (h : RecvAt base x k rv L w) (hx : x ≤ 10) (hk : k < 10) {z : Int} (hz : 64 ≤ z ∧ z ≤ 147) {s ta tb : ByteArray}
    (hw : k ≠ x → Whole k s ta tb) (hb : k = x → BadT ta ∧ BadT tb) :
    Calls Tryz.prog 10 #[rv, .int .i64 (z + (12500 * (k : Int) + 20 + (0 : Nat))), .int .i64 0, .string ta] w fun e w' => Answers (!Nat.beq k x) s e ∧ Mid base x k rv z s tb (grown L w) w' ∧ Upon L w w' ∧ Below base w w' := by
  obtain ⟨σ, ν, h1, r, ht, h2, h3⟩ := h.out
  obtain ⟨σ7, h7⟩ := takes_all (k := k + 1) hx (by omega)
  have h8 := h7
  unfold stR at h8
  rw [h1] at h8
  have h9 : pairR σ k (Nat.beq k x) = some σ7 := h8
  clear h8
  unfold pairR at h9
  rcases hfr : frameR σ k (Nat.beq k x) with ⟨tk, m, a, b, σ5⟩
  rw [hfr] at h9
  replace h9 : (match takeR σ5 k 0 (Nat.beq k x) tk m a with | some σ6 => takeR σ6 k 1 (Nat.beq k x) tk m b | none => none) = some σ7 := h9
  cases ht0 : takeR σ5 k 0 (Nat.beq k x) tk m a with
  | none => rw [ht0] at h9; cases h9
  | some σ6 =>
    rw [ht0] at h9
    have h10 : takeR σ6 k 1 (Nat.beq k x) tk m b = some σ7 := h9
    clear h9
    have key : ∃ ν5, Rel base ν5 σ5 w ∧ Top ν5 σ5 ∧ Run ν σ w ν5 σ5 w ∧ (∀ side : Nat, (tickAt tk k side).conc ν5 = some (.int .i64 (z + (12500 * (k : Int) + 20 + side)))) ∧ (Nat.beq k x = false → m.conc ν5 = some (.string s)) ∧ a.conc ν5 = some (.string ta) ∧ b.conc ν5 = some (.string tb) := by
      by_cases he : k = x
      · have hbe : Nat.beq k x = true := by rw [Nat.beq_eq]; exact he
        rw [hbe] at hfr
        obtain ⟨ν5, g1, g2, g3, g4, g5, g6⟩ := frame_bad r ht (by omega) hfr hz (hb he).1 (hb he).2
        exact ⟨ν5, g1, g2, g3, g4, fun hh => (by rw [hbe] at hh; cases hh), g5, g6⟩
      · have hbe : Nat.beq k x = false := by
          cases hq : Nat.beq k x with
          | false => rfl
          | true => exact (he (Nat.eq_of_beq_eq_true hq)).elim
        rw [hbe] at hfr
        obtain ⟨ν5, g1, g2, g3, g4, g5, g6, g7⟩ := frame_whole r ht hfr hz (hw he)
        exact ⟨ν5, g1, g2, g3, g4, fun _ => g5, g6, g7⟩
    obtain ⟨ν5, r5, t5, q5, c1, c2, c3, c4⟩ := key
    refine (takeR_ok hC ht0 r5 t5 (s := s) (AV.conc_mono q5.le _ _ h2) (c1 0) c3 c2).mono ?_
    rintro e w' ⟨p, q, er, dv, rfl, hd, ν6, r6, t6, q6⟩
    have hq := q5.trans q6
    refine ⟨⟨p, q, er, dv, ?_, ?_⟩, ⟨σ6, σ7, ν6, tk, m, b, h10, h7, r6, t6, AV.conc_mono hq.le _ _ h2, AV.conc_mono q6.le _ _ (c1 1), AV.conc_mono q6.le _ _ c4, fun hh => AV.conc_mono q6.le _ _ (c2 hh), fun j hj => ?_⟩, upon_run h3 hq, below_run r hq⟩
    · unfold comesB
      cases Nat.beq k x <;> rfl
    · intro hh
      refine hd ?_
      unfold comesB
      cases hbq : Nat.beq k x with
      | true => rw [hbq] at hh; cases hh
      | false => rfl
    · rcases hq.fresh j hj with h | h
      · exact .inl (h3 j h)
      · exact .inr h
theorem take1 (hC : COk C1) {base x k : Nat} {rv : Value} {L : Nat → Prop} {w : World} {z : Int} {s tb : ByteArray} (h : Mid base x k rv z s tb L w) :
    Calls Tryz.prog 10 #[rv, .int .i64 (z + (12500 * (k : Int) + 20 + (1 : Nat))), .int .i64 1, .string tb] w fun e w' => Answers false s e ∧ RecvAt base x (k + 1) rv (grown L w) w' ∧ Upon L w w' ∧ Below base w w' := by
  obtain ⟨σ6, σ7, ν, tk, m, b, h1, h2, r, ht, h3, h4, h5, h6, h7⟩ := h.out
  refine (takeR_ok hC h1 r ht (s := s) h3 h4 h5 h6).mono ?_
  rintro e w' ⟨p, q, er, dv, rfl, hd, ν6, r6, t6, q6⟩
  refine ⟨⟨p, q, er, dv, ?_, fun hh => by cases hh⟩, ⟨σ7, ν6, h2, r6, t6, AV.conc_mono q6.le _ _ h3, fun j hj => ?_⟩, upon_run h7 q6, below_run r q6⟩
  · unfold comesB
    cases Nat.beq k x <;> rfl
  · rcases q6.fresh j hj with h | h
    · exact .inl (h7 j h)
    · exact .inr h
theorem RecvAt.upon {base x k : Nat} {rv : Value} {L S : Nat → Prop} {w w' : World} (h : RecvAt base x k rv L w) (u : Upon S w w') (hd : ∀ j, L j → ¬ S j) : RecvAt base x k rv L w' := by
  obtain ⟨σ, ν, h1, r, ht, h2, h3⟩ := h.out
  exact ⟨σ, ν, h1, r.beside u.size (fun j hj => u.block j (r.live_lt hj) (hd j (h3 j hj))), ht, h2, h3⟩
theorem Mid.upon {base x k : Nat} {rv : Value} {z : Int} {s tb : ByteArray} {L S : Nat → Prop} {w w' : World} (h : Mid base x k rv z s tb L w) (u : Upon S w w') (hd : ∀ j, L j → ¬ S j) : Mid base x k rv z s tb L w' := by
  obtain ⟨σ6, σ7, ν, tk, m, b, h1, h2, r, ht, h3, h4, h5, h6, h7⟩ := h.out
  exact ⟨σ6, σ7, ν, tk, m, b, h1, h2, r.beside u.size (fun j hj => u.block j (r.live_lt hj) (hd j (h7 j hj))), ht, h3, h4, h5, h6, h7⟩
def isTrue1 : Option (AV × St) → Bool
  | some (.bool true, _) => true
  | _ => false
/-- The self-check. -/
theorem awake_calls (hC : COk C1) (hA : isTrue1 (callA C1 3000 7 [] ⟨.nil, 0⟩) = true) (w : World) : Calls Tryz.prog 7 #[] w fun e w' => e = .returned (.bool true) ∧ Below w.heap.size w w' := by
  cases hc : callA C1 3000 7 [] ⟨.nil, 0⟩ with
  | none => rw [hc] at hA; cases hA
  | some p =>
    obtain ⟨v, σ'⟩ := p
    rw [hc] at hA
    have hv : v = .bool true := by
      unfold isTrue1 at hA
      split at hA
      · rename_i h; cases h; rfl
      · cases hA
    subst hv
    refine (callA_ok hC hc (rel_nil w) (fun b _ => rfl) (vs := []) (concL_nil _)).mono ?_
    rintro e w' ⟨ν', c, rfl, k1, k2, k3⟩
    cases k1
    exact ⟨rfl, run_below k3⟩
end Go.Proofs.YtdgjcjhicbgfaaaGreat
