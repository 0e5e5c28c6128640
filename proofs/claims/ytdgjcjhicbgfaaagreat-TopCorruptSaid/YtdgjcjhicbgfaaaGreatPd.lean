/- Every call that is taken as known is known. Conditions: none. -/
import Derived.Test.YtdgjcjhicbgfaaaGreatPb
import Derived.Test.YtdgjcjhicbgfaaaGreatPc
import Derived.Test.YtdgjcjhicbgfaaaGreatCo
set_option linter.unusedVariables false
set_option linter.unusedSimpArgs false
set_option linter.unusedSimpArgs false
set_option linter.unusedVariables false
namespace Go.Proofs.YtdgjcjhicbgfaaaGreat
open Go.RowKit

theorem pIpDec_ok {base : Nat} {ν : Nu} {σ : St} {w : World} {args : List AV} {vs : List Value} {v : AV} {σ' : St} (h : pIpDec args σ = some (v, σ')) (r : Rel base ν σ w) (ht : Top ν σ) (ha : AV.concL ν args = some vs) :
    Calls Tryz.prog 113 vs.toArray w (Done base ν σ w v σ') := by
  unfold pIpDec at h
  split at h <;> first | (cases h; done) | skip
  rename_i s
  split at h <;> first | (cases h; done) | skip
  rename_i id d hp
  cases h
  obtain ⟨x, g1, rfl⟩ := concL_inv1 ha
  obtain ⟨s', rfl, t, k, k1, k2, k3, k4, k5⟩ := provOf_ok r hp g1
  refine Done.same r (c := .tuple #[.agg (ipC id t), .int .i64 0]) ?_ (idec_calls id k t s' w k5 k2 k3 k4)
  have hl : AV.concL ν ([i64 id, .bool false, i64 0, i64 1, i64 17, u8 10, u8 0, u8 0, u8 0, u8 224, u8 224, u8 0, u8 10] ++ [d]) = some ([.int .i64 id, .bool false, .int .i64 0, .int .i64 1, .int .i64 17, .int .u8 10, .int .u8 0, .int .u8 0, .int .u8 0, .int .u8 224, .int .u8 224, .int .u8 0, .int .u8 10] ++ [.string t]) := concL_append rfl (concL_mk k1 (concL_nil _))
  exact conc_tup_mk (concL_mk (conc_agg_mk hl) (concL_mk rfl (concL_nil _)))
def primFns : List Nat := [66, 116, 68, 113, 94, 110, 161, 162]
theorem fn_there {f : Nat} (h : f ∈ primFns) : ∃ fn, Tryz.prog.funcs[f]? = some fn ∧ (fn.name == "runtime.NumGoroutine") = false ∧ fn.body.isNone = false := by
  have hk : (primFns.all fun f => match tabF.get f with | some fn => !(fn.name == "runtime.NumGoroutine") && !fn.body.isNone | none => false) = true := by kernel_rfl
  have := List.all_eq_true.1 hk f h
  split at this
  · rename_i fn hf
    simp only [Bool.and_eq_true, Bool.not_eq_true'] at this
    exact ⟨fn, tabF_ok hf, this.1, this.2⟩
  · cases this
theorem prims_ok : PrimOk C0 := by
  intro f g hg
  have hg : primT f = some g := hg
  unfold primT at hg
  split at hg <;> first | (cases hg; done) | skip
  all_goals cases hg
  · exact ⟨fn_there (by simp [primFns]), fun base ν σ w args vs v σ' h1 r ht ha => pUdpEnc_ok h1 r ht ha⟩
  · exact ⟨fn_there (by simp [primFns]), fun base ν σ w args vs v σ' h1 r ht ha => pUdpDec_ok h1 r ht ha⟩
  · exact ⟨fn_there (by simp [primFns]), fun base ν σ w args vs v σ' h1 r ht ha => pIpEnc_ok h1 r ht ha⟩
  · exact ⟨fn_there (by simp [primFns]), fun base ν σ w args vs v σ' h1 r ht ha => pIpDec_ok h1 r ht ha⟩
  · exact ⟨fn_there (by simp [primFns]), fun base ν σ w args vs v σ' h1 r ht ha => pEthEnc_ok h1 r ht ha⟩
  · exact ⟨fn_there (by simp [primFns]), fun base ν σ w args vs v σ' h1 r ht ha => pEthDec_ok h1 r ht ha⟩
  · exact ⟨fn_there (by simp [primFns]), fun base ν σ w args vs v σ' h1 r ht ha => pCopied_ok h1 r ht ha⟩
  · exact ⟨fn_there (by simp [primFns]), fun base ν σ w args vs v σ' h1 r ht ha => pPassed_ok h1 r ht ha⟩
theorem c0ok : COk C0 := c0_ok prims_ok
theorem c1ok : COk C1 := c1_ok prims_ok
end Go.Proofs.YtdgjcjhicbgfaaaGreat
