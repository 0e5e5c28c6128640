/- What the sender's and the receiver's runs say of the world. Conditions: that the machine's calls are the program's. -/
import Derived.Test.YtdgjcjhicbgfaaaGreatUa
import Derived.Test.YtdgjcjhicbgfaaaGreatTb
import Derived.Test.YtdgjcjhicbgfaaaGreatTc
import Derived.Test.YtdgjcjhicbgfaaaGreatTd
import Derived.Test.YtdgjcjhicbgfaaaGreatTe
set_option linter.unusedVariables false
set_option linter.unusedSimpArgs false
set_option linter.unusedSimpArgs false
set_option linter.unusedVariables false
namespace Go.Proofs.YtdgjcjhicbgfaaaGreat
open Go.RowKit

theorem isI_ok {ν : Nu} {v : AV} {c : Value} (h : isI v = true) (hc : v.conc ν = some c) : ∃ z : Int, c = .int .i64 z := by
  unfold isI at h
  split at h <;> first | (cases h; done) | skip
  · unfold AV.conc at hc; cases hc; exact ⟨_, rfl⟩
  · obtain ⟨z, _, rfl⟩ := conc_sym hc; exact ⟨_, rfl⟩
theorem isT_ok {ν : Nu} {v : AV} {c : Value} (h : isT v = true) (hc : v.conc ν = some c) : ∃ s : ByteArray, c = .string s := by
  unfold isT at h
  split at h <;> first | (cases h; done) | skip
  · unfold AV.conc at hc; cases hc; exact ⟨_, rfl⟩
  · obtain ⟨z, _, rfl⟩ := conc_txt hc; exact ⟨_, rfl⟩
def comesB (bad : Bool) (side : Nat) : Bool := match bad with
  | true => false
  | false => match side with | 0 => true | _ => false
/-- What Take does. -/
def TakePost (base : Nat) (ν : Nu) (σ σ' : St) (w : World) (s : ByteArray) (is : Bool) (e : Ending) (w' : World) : Prop :=
  ∃ (p q er : Int) (dv : ByteArray), e = .returned (.tuple #[.agg #[.int .i64 p, .int .i64 q, .string dv], .bool is, .int .i64 er]) ∧ (is = true → dv = s) ∧ ∃ ν', Rel base ν' σ' w' ∧ Top ν' σ' ∧ Run ν σ w ν' σ' w'
theorem takeR_ok (hC : COk C1) {base : Nat} {ν : Nu} {σ σ' : St} {w : World} {i side : Nat} {bad : Bool} {tk m t : AV} (h : takeR σ i side bad tk m t = some σ') (r : Rel base ν σ w) (ht : Top ν σ) {rv : Value} {z : Int} {x s : ByteArray}
    (hr : rxA.conc ν = some rv) (hk : (tickAt tk i side).conc ν = some (.int .i64 z)) (hx : t.conc ν = some (.string x)) (hm : bad = false → m.conc ν = some (.string s)) :
    Calls Tryz.prog 10 #[rv, .int .i64 z, .int .i64 side, .string x] w (TakePost base ν σ σ' w s (comesB bad side)) := by
  unfold takeR at h
  split at h <;> first | (cases h; done) | skip
  rename_i a b d is er σ1 hc
  split at h <;> first | (cases h; done) | skip
  rename_i g1 g2 g3
  refine (callA_ok hC hc r ht (concL_mk hr (concL_mk hk (concL_mk rfl (concL_mk hx (concL_nil _)))))).mono ?_
  rintro e w' ⟨ν', c, rfl, k1, k2, k3⟩
  obtain ⟨l, k4, rfl⟩ := conc_tup k1
  obtain ⟨v1, l1, k5, k6, rfl⟩ := concL_cons k4
  obtain ⟨v2, v3, k7, k8, rfl⟩ := concL_inv2 k6
  obtain ⟨la, k9, rfl⟩ := conc_agg k5
  obtain ⟨u1, l2, m1, m2, rfl⟩ := concL_cons k9
  obtain ⟨u2, u3, m3, m4, rfl⟩ := concL_inv2 m2
  obtain ⟨p, rfl⟩ := isI_ok g1 m1
  obtain ⟨q, rfl⟩ := isI_ok g2 m3
  obtain ⟨dv, rfl⟩ := isT_ok g3 m4
  cases k7
  cases k8
  have hs : is = comesB bad side ∧ σ1 = σ' ∧ (is = true → bad = false ∧ d = m) := by
    unfold comesB
    cases bad with
    | true =>
      simp only at h
      split at h <;> first | (cases h; done) | skip
      cases h
      exact ⟨rfl, rfl, fun hh => by cases hh⟩
    | false =>
      cases side with
      | zero =>
        simp only at h
        split at h <;> first | (cases h; done) | skip
        rename_i he
        cases h
        exact ⟨rfl, rfl, fun _ => ⟨rfl, AV.eqb_ok _ _ he⟩⟩
      | succ n =>
        simp only at h
        split at h <;> first | (cases h; done) | skip
        cases h
        exact ⟨rfl, rfl, fun hh => by cases hh⟩
  obtain ⟨h1, rfl, h3⟩ := hs
  subst h1
  refine ⟨p, q, er, dv, rfl, fun hi => ?_, ν', k2, ht.run k3, k3⟩
  obtain ⟨hb, hd⟩ := h3 hi
  subst hd
  have := AV.conc_mono k3.le _ _ (hm hb)
  rw [m4] at this
  injection this with this
  injection this
/-- The messages, where the machine has them. -/
def MsgsAt (ν : Nu) : List AV → List ByteArray → Prop
  | [], [] => True
  | m :: ms, s :: ss => m.conc ν = some (.string s) ∧ MsgsAt ν ms ss
  | _, _ => False
theorem MsgsAt.mono {ν ν' : Nu} (h : Nu.le ν ν') : ∀ {ms : List AV} {ss : List ByteArray}, MsgsAt ν ms ss → MsgsAt ν' ms ss
  | [], [], _ => trivial
  | m :: ms, s :: ss, ⟨h1, h2⟩ => ⟨AV.conc_mono h _ _ h1, MsgsAt.mono h h2⟩
  | [], _ :: _, k => k.elim
  | _ :: _, [], k => k.elim
theorem MsgsAt.snoc {ν : Nu} {m : AV} {s : ByteArray} : ∀ {ms : List AV} {ss : List ByteArray}, MsgsAt ν ms ss → m.conc ν = some (.string s) → MsgsAt ν (ms ++ [m]) (ss ++ [s])
  | [], [], _, h => ⟨h, trivial⟩
  | _ :: _, _ :: _, ⟨h1, h2⟩, h => ⟨h1, h2.snoc h⟩
  | [], _ :: _, k, _ => k.elim
  | _ :: _, [], k, _ => k.elim
/-- Where the sender stands: so many messages were sent. -/
structure SendAt (base : Nat) (k : Nat) (ss : List ByteArray) (tv rv : Value) (w : World) : Prop where
  mk :: (out : ∃ σ ms ν, sendS k = some (σ, ms) ∧ Rel base ν σ w ∧ Top ν σ ∧ MsgsAt ν ms ss ∧ txA.conc ν = some tv ∧ rxA.conc ν = some rv)
theorem isS_some {α : Type} {x : Option α} (h : isS x = true) : ∃ a, x = some a := by
  cases x with
  | none => cases h
  | some a => exact ⟨a, rfl⟩
theorem pass_all {n : Nat} (h : n ≤ 10) : isS (passS n) = true := by
  have hh : n = 0 ∨ n = 1 ∨ n = 2 ∨ n = 3 ∨ n = 4 ∨ n = 5 ∨ n = 6 ∨ n = 7 ∨ n = 8 ∨ n = 9 ∨ n = 10 := by omega
  rcases hh with rfl | rfl | rfl | rfl | rfl | rfl | rfl | rfl | rfl | rfl | rfl
  · exact pass0
  · exact pass1
  · exact pass2
  · exact pass3
  · exact pass4
  · exact pass5
  · exact pass6
  · exact pass7
  · exact pass8
  · exact pass9
  · exact pass10
theorem send_all {n : Nat} (h : n ≤ 10) : ∃ x, sendS n = some x := by
  obtain ⟨a, ha⟩ := isS_some (pass_all h)
  cases hs : sendS n with
  | none => unfold passS at ha; rw [hs] at ha; cases ha
  | some x => exact ⟨x, rfl⟩
/-- A message is sent. -/
theorem send_ok (hC : COk C1) {base k : Nat} {ss : List ByteArray} {tv rv : Value} {w : World} (h : SendAt base k ss tv rv w) (hk : k < 10) {s : ByteArray} (hs : s.size ≤ 100) :
    Calls Tryz.prog 8 #[tv, .int .i64 0, .int .i64 10, .string s] w fun e w' => e = .returned (.int .i64 0) ∧ SendAt base (k + 1) (ss ++ [s]) tv rv w' ∧ Below base w w' := by
  obtain ⟨σ, ms, ν, h1, r, ht, h2, h3, h4⟩ := h.out
  obtain ⟨⟨σ2, ms2⟩, h5⟩ := send_all (n := k + 1) (by omega)
  have h6 := h5
  unfold sendS at h6
  rw [h1] at h6
  simp only at h6
  split at h6 <;> first | (cases h6; done) | skip
  rename_i σ3 hr
  cases h6
  obtain ⟨ν1, r1, t1, q1, c1⟩ := newTxt_ok' r ht 0 100 .any (s := s) (by omega) (by omega) trivial
  refine (callA_ok hC (runTo_some hr) r1 t1 (concL_mk (AV.conc_mono q1.le _ _ h3) (concL_mk rfl (concL_mk rfl (concL_mk c1 (concL_nil _)))))).mono ?_
  rintro e w' ⟨ν2, c, rfl, k1, k2, k3⟩
  cases k1
  have q := q1.trans k3
  refine ⟨rfl, ⟨_, _, ν2, h5, k2, t1.run k3, (h2.mono q.le).snoc (AV.conc_mono k3.le _ _ c1), AV.conc_mono q.le _ _ h3, AV.conc_mono q.le _ _ h4⟩, ?_⟩
  refine ⟨q.os, q.tape, q.output, q.size, fun j hj => q.keep j ?_ ?_⟩
  · have := r.size; omega
  · intro hl; have := r.own j hl; omega
end Go.Proofs.YtdgjcjhicbgfaaaGreat
