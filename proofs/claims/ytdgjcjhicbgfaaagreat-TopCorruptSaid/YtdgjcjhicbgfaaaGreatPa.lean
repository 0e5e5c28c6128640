/- Calls taken as known, met: words. Conditions: none but those that the lemmas name. -/
import Derived.Test.YtdgjcjhicbgfaaaGreatMf
import Derived.Test.YtdgjcjhicbgfaaaGreatMh
set_option linter.unusedVariables false
set_option linter.unusedSimpArgs false
set_option linter.unusedSimpArgs false
set_option linter.unusedVariables false
namespace Go.Proofs.YtdgjcjhicbgfaaaGreat
open Go.RowKit

theorem grow_of {w w' : World} (h : Below w.heap.size w w') : Grow w w' := ⟨h.os, h.tape, h.output, h.size, h.block⟩
/-- What a call answers that turns nothing. -/
theorem Done.same {base : Nat} {ν : Nu} {σ : St} {w : World} {v : AV} {c : Value} (r : Rel base ν σ w) (hc : v.conc ν = some c) {P : Program} {f : FuncId} {args : Array Value} (h : Calls P f args w fun e w' => e = .returned c ∧ Below w.heap.size w w') : Calls P f args w (Done base ν σ w v σ) :=
  h.mono fun e w' ⟨h1, h2⟩ => ⟨ν, c, h1, hc, r.grow (grow_of h2), Run.grow r (grow_of h2)⟩
theorem lenB_ok {base : Nat} {ν : Nu} {σ : St} {w : World} (r : Rel base ν σ w) {d : AV} {lo hi : Int} {c : Value} (h : lenB σ d = some (lo, hi)) (hc : d.conc ν = some c) : ∃ s : ByteArray, c = .string s ∧ lo ≤ s.size ∧ (s.size : Int) ≤ hi := by
  unfold lenB at h
  split at h
  · cases h
    unfold AV.conc at hc
    cases hc
    refine ⟨_, rfl, ?_⟩
    simp [bytesOf, ByteArray.size]
  · rename_i b
    split at h <;> first | (cases h; done) | skip
    rename_i n pv hb
    obtain ⟨s, hs, rfl⟩ := conc_txt hc
    obtain ⟨e, he, hi'⟩ := r.obj b _ hb
    rw [hs] at he; cases he
    cases hi' with
    | txt _ _ _ h1 h2 =>
      obtain ⟨z, hz, g1, g2⟩ := bnd_ok r h h1
      cases hz
      exact ⟨s, rfl, g1, g2⟩
  · cases h
theorem provOf_ok {base : Nat} {ν : Nu} {σ : St} {w : World} (r : Rel base ν σ w) {d : AV} {pv : Prov} {c : Value} (h : provOf σ d = some pv) (hc : d.conc ν = some c) : ∃ s : ByteArray, c = .string s ∧ ProvIs ν pv s := by
  unfold provOf at h
  split at h
  · rename_i b
    split at h <;> first | (cases h; done) | skip
    rename_i n pv' hb
    cases h
    obtain ⟨s, hs, rfl⟩ := conc_txt hc
    obtain ⟨e, he, hi'⟩ := r.obj b _ hb
    rw [hs] at he; cases he
    cases hi' with
    | txt _ _ _ h1 h2 => exact ⟨s, rfl, h2⟩
  · cases h
/-- A call that makes a text. -/
theorem Done.text {base : Nat} {ν : Nu} {σ σ' : St} {w : World} (r : Rel base ν σ w) (ht : Top ν σ) {lo hi : Int} {pv : Prov} {t : AV} {l : List UInt8} {v : AV} (h : newTxt σ lo hi pv = (t, σ')) (hlo : lo ≤ l.length) (hhi : (l.length : Int) ≤ hi) (hp : ProvIs ν pv ⟨l.toArray⟩) {c : Value}
    (hv : ∀ ν' : Nu, Nu.le ν ν' → t.conc ν' = some (strOf l) → v.conc ν' = some c) {P : Program} {f : FuncId} {args : Array Value} (hcall : Calls P f args w fun e w' => e = .returned c ∧ Below w.heap.size w w') : Calls P f args w (Done base ν σ w v σ') := by
  unfold newTxt at h
  cases h
  refine hcall.mono ?_
  rintro e w' ⟨rfl, hb⟩
  have hn : ν σ.next = none := ht _ (Nat.le_refl _)
  obtain ⟨r1, q1⟩ := r.add (grow_of hb) (.num lo hi) (.num l.length) hn (.num _ _ _ ⟨hlo, hhi⟩) (fun k s c he => by cases he)
  have hn2 : (ν.put σ.next (.num l.length)) (σ.add (.num lo hi)).next = none := by
    rw [Nu.put_ne _ _ (by show σ.next + 1 ≠ σ.next; omega)]
    exact ht _ (by show σ.next ≤ σ.next + 1; omega)
  obtain ⟨r2, q2⟩ := r1.add (Grow.refl w') (.txt (.sym σ.next 0) pv) (.txt ⟨l.toArray⟩) hn2 (.txt _ _ _ (by
    unfold AV.conc
    rw [Nu.put_self]
    simp [ByteArray.size]) (hp.mono q1.le)) (fun k s c he => by cases he)
  refine ⟨_, c, rfl, hv _ (q1.le.trans q2.le) ?_, r2, q1.trans q2⟩
  show AV.conc _ (.txt (σ.next + 1)) = _
  unfold AV.conc
  rw [show (σ.add (.num lo hi)).next = σ.next + 1 from rfl, Nu.put_self]
  rfl
theorem concL_inv2 {ν : Nu} {a b : AV} {vs : List Value} (h : AV.concL ν [a, b] = some vs) : ∃ x y, a.conc ν = some x ∧ b.conc ν = some y ∧ vs = [x, y] := by
  obtain ⟨x, r, h1, h2, rfl⟩ := concL_cons h
  obtain ⟨y, r', h3, h4, rfl⟩ := concL_cons h2
  rw [concL_nil] at h4; cases h4
  exact ⟨x, y, h1, h3, rfl⟩
theorem concL_inv1 {ν : Nu} {a : AV} {vs : List Value} (h : AV.concL ν [a] = some vs) : ∃ x, a.conc ν = some x ∧ vs = [x] := by
  obtain ⟨x, r, h1, h2, rfl⟩ := concL_cons h
  rw [concL_nil] at h2; cases h2
  exact ⟨x, h1, rfl⟩
theorem pUdpEnc_ok {base : Nat} {ν : Nu} {σ : St} {w : World} {args : List AV} {vs : List Value} {v : AV} {σ' : St} (h : pUdpEnc args σ = some (v, σ')) (r : Rel base ν σ w) (ht : Top ν σ) (ha : AV.concL ν args = some vs) :
    Calls Tryz.prog 66 vs.toArray w (Done base ν σ w v σ') := by
  unfold pUdpEnc at h
  split at h <;> first | (cases h; done) | skip
  rename_i e d
  split at h <;> first | (cases h; done) | skip
  rename_i lo hi he hl
  split at h <;> first | (cases h; done) | skip
  rename_i h100
  split at h
  rename_i t σ1 hn
  cases h
  have he := AV.eqbL_ok _ _ he
  subst he
  obtain ⟨x, y, h1, h2, rfl⟩ := concL_inv2 ha
  obtain ⟨s, rfl, g1, g2⟩ := lenB_ok r hl h2
  cases h1
  have hs : s.size ≤ 100 := by omega
  refine Done.text r ht hn (l := udpB s.data.toList) (by rw [udpB_len, str_len]; omega) (by rw [udpB_len, str_len]; omega) ⟨s, h2, hs, rfl⟩ (c := .tuple #[strOf (udpB s.data.toList), .int .i64 0]) ?_ (uenc_calls s w hs)
  intro ν' _ hc
  exact conc_tup_mk (concL_mk hc (concL_mk rfl (concL_nil _)))
theorem pUdpDec_ok {base : Nat} {ν : Nu} {σ : St} {w : World} {args : List AV} {vs : List Value} {v : AV} {σ' : St} (h : pUdpDec args σ = some (v, σ')) (r : Rel base ν σ w) (ht : Top ν σ) (ha : AV.concL ν args = some vs) :
    Calls Tryz.prog 116 vs.toArray w (Done base ν σ w v σ') := by
  unfold pUdpDec at h
  split at h <;> first | (cases h; done) | skip
  rename_i a b s
  split at h <;> first | (cases h; done) | skip
  rename_i d h1 h2 h3
  cases h
  have e1 := AV.eqbL_ok _ _ h1
  have e2 := AV.eqbL_ok _ _ h2
  subst e1 e2
  obtain ⟨x, rr, g1, g2, rfl⟩ := concL_cons ha
  obtain ⟨y, z, g3, g4, rfl⟩ := concL_inv2 g2
  cases g1
  cases g3
  obtain ⟨s', rfl, t, k1, k2, k3⟩ := provOf_ok r h3 g4
  refine Done.same r (c := .tuple #[.agg uCells, .string t, .int .i64 0]) ?_ (udec_calls t s' w k2 k3)
  exact conc_tup_mk (concL_mk (conc_agg_mk rfl) (concL_mk k1 (concL_mk rfl (concL_nil _))))
end Go.Proofs.YtdgjcjhicbgfaaaGreat
