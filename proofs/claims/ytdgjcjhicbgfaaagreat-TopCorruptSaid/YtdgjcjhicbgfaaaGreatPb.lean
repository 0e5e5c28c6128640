/- Calls taken as known, met: packets and frames. Conditions: none but those that the lemmas name. -/
import Derived.Test.YtdgjcjhicbgfaaaGreatPa
import Derived.Test.YtdgjcjhicbgfaaaGreatCm
import Derived.Test.YtdgjcjhicbgfaaaGreatCr
set_option linter.unusedVariables false
set_option linter.unusedSimpArgs false
set_option linter.unusedSimpArgs false
set_option linter.unusedVariables false
namespace Go.Proofs.YtdgjcjhicbgfaaaGreat
open Go.RowKit

theorem pIpEnc_ok {base : Nat} {ν : Nu} {σ : St} {w : World} {args : List AV} {vs : List Value} {v : AV} {σ' : St} (h : pIpEnc args σ = some (v, σ')) (r : Rel base ν σ w) (ht : Top ν σ) (ha : AV.concL ν args = some vs) :
    Calls Tryz.prog 68 vs.toArray w (Done base ν σ w v σ') := by
  unfold pIpEnc at h
  split at h <;> first | (cases h; done) | skip
  rename_i id rr
  split at h <;> first | (cases h; done) | skip
  rename_i m o t p s0 s1 s2 s3 d0 d1 d2 d3 d
  split at h <;> first | (cases h; done) | skip
  rename_i lo hi he hl
  split at h <;> first | (cases h; done) | skip
  rename_i i0
  split at h <;> first | (cases h; done) | skip
  rename_i i1
  split at h <;> first | (cases h; done) | skip
  rename_i h108
  split at h
  rename_i tt σ1 hn
  cases h
  have he := AV.eqbL_ok _ _ he
  simp only [srcA, dstA, List.cons_append, List.nil_append, List.cons.injEq, and_true] at he
  obtain ⟨rfl, rfl, rfl, rfl, rfl, rfl, rfl, rfl, rfl, rfl, rfl, rfl⟩ := he
  obtain ⟨x, g1, rfl⟩ := concL_inv1 ha
  obtain ⟨l, g2, rfl⟩ := conc_agg g1
  have g2' : AV.concL ν ([.int .i64 id, .bool false, i64 0, i64 1, i64 17, u8 10, u8 0, u8 0, u8 0, u8 224, u8 224, u8 0, u8 10] ++ [d]) = some l := g2
  obtain ⟨a, b, g3, g4, rfl⟩ := concL_append_inv g2'
  obtain ⟨y, g5, rfl⟩ := concL_inv1 g4
  cases g3
  obtain ⟨s, rfl, k1, k2⟩ := lenB_ok r hl g5
  have hs : s.size ≤ 108 := by omega
  obtain ⟨n, rfl⟩ := Int.eq_ofNat_of_zero_le i0
  refine Done.text r ht hn (l := ipB n s.data.toList) (by rw [ipB_len, str_len]; omega) (by rw [ipB_len, str_len]; omega) ⟨s, 0, g5, hs, by omega, by omega, by simp⟩ (c := .tuple #[strOf (ipB n s.data.toList), .int .i64 0]) ?_ (ienc_calls n s w hs (by omega))
  intro ν' _ hc
  exact conc_tup_mk (concL_mk hc (concL_mk rfl (concL_nil _)))
theorem pEthEnc_ok {base : Nat} {ν : Nu} {σ : St} {w : World} {args : List AV} {vs : List Value} {v : AV} {σ' : St} (h : pEthEnc args σ = some (v, σ')) (r : Rel base ν σ w) (ht : Top ν σ) (ha : AV.concL ν args = some vs) :
    Calls Tryz.prog 94 vs.toArray w (Done base ν σ w v σ') := by
  unfold pEthEnc at h
  split at h <;> first | (cases h; done) | skip
  rename_i vl fr net seq d
  split at h <;> first | (cases h; done) | skip
  rename_i lo hi e1 e2 hl
  split at h <;> first | (cases h; done) | skip
  rename_i i0
  split at h <;> first | (cases h; done) | skip
  rename_i i1
  split at h <;> first | (cases h; done) | skip
  rename_i j0
  split at h <;> first | (cases h; done) | skip
  rename_i j1
  split at h <;> first | (cases h; done) | skip
  rename_i h128
  split at h
  rename_i tt σ1 hn
  cases h
  have e1 := AV.eqb_ok _ _ e1
  have e2 := AV.eqb_ok _ _ e2
  subst e1 e2
  obtain ⟨x, g1, rfl⟩ := concL_inv1 ha
  obtain ⟨l, g2, rfl⟩ := conc_agg g1
  have g2' : AV.concL ν ([i64 10, i64 0, .int .i64 net, .int .i64 seq] ++ [d]) = some l := g2
  obtain ⟨a, b, g3, g4, rfl⟩ := concL_append_inv g2'
  obtain ⟨y, g5, rfl⟩ := concL_inv1 g4
  cases g3
  obtain ⟨s, rfl, k1, k2⟩ := lenB_ok r hl g5
  have hs : s.size ≤ 128 := by omega
  obtain ⟨n, rfl⟩ := Int.eq_ofNat_of_zero_le i0
  obtain ⟨q, rfl⟩ := Int.eq_ofNat_of_zero_le j0
  have hlen : (ethB n q s.data.toList).length = 19 + max s.size 45 := by rw [ethB_len, str_len]
  refine Done.text r ht hn (l := ethB n q s.data.toList) (by rw [hlen]; split <;> omega) (by rw [hlen]; split <;> omega) ⟨s, g5, hs, by omega, by omega, by simp⟩ (c := .tuple #[strOf (ethB n q s.data.toList), .int .i64 0]) ?_ (eenc_calls n q s w hs (by omega) (by omega))
  intro ν' _ hc
  exact conc_tup_mk (concL_mk hc (concL_mk rfl (concL_nil _)))
theorem pEthDec_ok {base : Nat} {ν : Nu} {σ : St} {w : World} {args : List AV} {vs : List Value} {v : AV} {σ' : St} (h : pEthDec args σ = some (v, σ')) (r : Rel base ν σ w) (ht : Top ν σ) (ha : AV.concL ν args = some vs) :
    Calls Tryz.prog 110 vs.toArray w (Done base ν σ w v σ') := by
  unfold pEthDec at h
  split at h <;> first | (cases h; done) | skip
  rename_i s
  split at h <;> first | (cases h; done) | skip
  · rename_i net seq d hp
    split at h <;> first | (cases h; done) | skip
    rename_i lo hi hl
    split at h
    rename_i t σ1 hn
    cases h
    obtain ⟨x, g1, rfl⟩ := concL_inv1 ha
    obtain ⟨s', rfl, u, k1, k2, k3, k4, k5⟩ := provOf_ok r hp g1
    obtain ⟨u', hu', m1, m2⟩ := lenB_ok r hl k1
    cases hu'
    have hlen : (u.data.toList ++ List.replicate (45 - u.size) (0 : UInt8)).length = max u.size 45 := by rw [List.length_append, str_len, List.length_replicate]; omega
    refine Done.text r ht hn (l := u.data.toList ++ List.replicate (45 - u.size) 0) (by rw [hlen]; split <;> omega) (by rw [hlen]; split <;> omega) ?_ (c := .tuple #[.agg (frC net seq ⟨(u.data.toList ++ List.replicate (45 - u.size) 0).toArray⟩), .int .i64 0]) ?_ (edec_ok net seq u s' w k5 k2 (by omega) k4)
    · split
      · rename_i id e hq
        obtain ⟨u2, hu2, tt, kk, q1, q2, q3, q4, q5⟩ := provOf_ok r hq k1
        cases hu2
        refine ⟨tt, kk + (45 - u.size), q1, q2, q3, ?_, ?_⟩
        · have : u.size = 20 + tt.size + kk := by rw [← str_len, q5, List.length_append, ipB_len, List.length_replicate, str_len]
          omega
        · show u.data.toList ++ _ = _
          rw [q5, List.append_assoc, List.replicate_append_replicate]
      · trivial
    · intro ν' _ hc
      exact conc_tup_mk (concL_mk (conc_agg_mk (concL_mk rfl (concL_mk rfl (concL_mk rfl (concL_mk rfl (concL_mk hc (concL_nil _))))))) (concL_mk rfl (concL_nil _)))
  · rename_i hp
    cases h
    obtain ⟨x, g1, rfl⟩ := concL_inv1 ha
    obtain ⟨s', rfl, k1, k2, k3⟩ := provOf_ok r hp g1
    exact Done.same r (c := .tuple #[.agg frZero, .int .i64 12]) rfl (edec_bad s' w k1 k2 k3)
end Go.Proofs.YtdgjcjhicbgfaaaGreat
