/- The reference's Period, and the statements' own 'plain'. Conditions: none. -/
import Derived.Test.YtkckfghmdkeobaaOps
namespace Go.Proofs.Ytkckfghmdkeobaa
open Go.RowKit
set_option linter.unusedVariables false
set_option maxHeartbeats 400000 in
theorem plain_calls (r : Rul) (w : World) : Calls Try.prog 13 #[.agg #[.int .i64 r.smax, .int .i64 r.bag, .int .i64 r.jit, .bool r.fr]] w fun e w' => e = .returned (.agg #[.int .i64 r.smax, .int .i64 r.bag, .int .i64 r.jit, .bool r.fr]) ∧ Below w.heap.size w w' := by
  go_enter Try.func13, Try.ntmps13
  go_wp2
  exact bodyPost_ret (v := .agg #[.int .i64 r.smax, .int .i64 r.bag, .int .i64 r.jit, .bool r.fr]) (by simp [results, Try.results13, go_sem]) rfl ⟨rfl, ((Below.refl _ _).alloc (Nat.le_refl _) _).alloc (by simp) _⟩
set_option maxHeartbeats 400000 in
theorem refperiod_calls (r : Rul) (w : World) (h : r.ok) : Calls Try.prog 12 #[.agg #[.int .i64 r.smax, .int .i64 r.bag, .int .i64 r.jit, .bool r.fr]] w fun e w' => e = .returned (.int .i64 r.per) ∧ Below w.heap.size w w' := by
  have h0 := h.b0
  have h1 := h.b1
  have HP : Aside (r.per = per r.bag) := ⟨rfl⟩
  obtain ⟨s, b, j, f⟩ := r
  simp only at h0 h1
  obtain ⟨n, rfl⟩ := Int.eq_ofNat_of_zero_le h0
  clear h
  go_enter Try.func12, Try.ntmps12
  go_wp2
  have hba : Below w.heap.size w (w.alloc (.cells (Rul.cells ⟨s, (n : Int), j, f⟩) 32)) := (Below.refl _ _).alloc (Nat.le_refl _) _
  have hb : Blk (w.alloc (.cells (Rul.cells ⟨s, (n : Int), j, f⟩) 32)) w.heap.size 32 (Rul.cells ⟨s, (n : Int), j, f⟩) := Blk.new _ _ _
  change Code.wp _ _ _ _ (w.alloc (.cells (Rul.cells ⟨s, (n : Int), j, f⟩) 32))
  generalize w.alloc (.cells (Rul.cells ⟨s, (n : Int), j, f⟩) 32) = wa at hba hb ⊢
  have c1 : wa.cell? ⟨w.heap.size, 1, none⟩ = some (.int .i64 (n : Int)) := hb.cell 1
  have HBA := Aside.mk hba
  clear hba hb
  go_loop [3, 4] (fun v i => ∃ k : Nat, k ≤ n ∧ i = .int .i64 k ∧ v = .int .i64 (per k)) (fun _ i => n - (intOf i).toNat)
  case atStart => exact ⟨0, Nat.zero_le _, rfl, rfl⟩
  case round =>
    obtain ⟨k, hk, rfl, rfl⟩ := hrel
    by_cases hlt : k < n
    · have hp := per_le (b := k) (by omega) (by omega)
      have hs : per ((k + 1 : Nat) : Int) = 2 * per k := by
        unfold per; simp [Int.pow_succ]; omega
      have HS := Aside.mk hs
      clear hs
      obtain ⟨hp0, hp1⟩ := hp
      go_wp2
      go_round
      case rel => exact ⟨k + 1, by omega, by go_num, by rw [HS.out]⟩
      case measure => simp [intOf]; omega
    · have : k = n := by omega
      subst this
      go_wp2
      go_ret
      exact ⟨rfl, HBA.out⟩
end Go.Proofs.Ytkckfghmdkeobaa
