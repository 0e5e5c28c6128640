/- What has gone, in the world; the receiver alone. Conditions: that the machine's calls are the program's. -/
import Derived.Test.YtdgjcjhicbgfaaaGreatUc
set_option linter.unusedVariables false
set_option linter.unusedSimpArgs false
set_option linter.unusedSimpArgs false
set_option linter.unusedVariables false
namespace Go.Proofs.YtdgjcjhicbgfaaaGreat
open Go.RowKit

/-- A frame that has gone, where it lies. -/
structure FrAt (w : World) (k off i : Nat) (s : ByteArray) : Prop where
  mk :: (out : ∃ (z : Int) (ta tb : ByteArray), (64 ≤ z ∧ z ≤ 147) ∧ w.cell? ⟨k, off + (i * 5 + 2), none⟩ = some (.int .i64 (z + (12500 * (i : Int) + 20))) ∧ w.cell? ⟨k, off + (i * 5 + 3), none⟩ = some (.string ta) ∧ w.cell? ⟨k, off + (i * 5 + 4), none⟩ = some (.string tb) ∧ Whole i s ta tb)
def OutsAt (w : World) (ov : Value) (ss : List ByteArray) (L : Nat → Prop) : Prop :=
  (ss = [] ∧ ov = .slice none 0 0) ∨ ∃ k off c, ov = .slice (some ⟨k, off, none⟩) ss.length c ∧ ¬ L k ∧ k < w.heap.size ∧ ∀ i s, ss[i]? = some s → FrAt w k off i s
/-- Where the receiver stands. -/
structure RecvAt (base x k : Nat) (rv : Value) (L : Nat → Prop) (w : World) : Prop where
  mk :: (out : ∃ σ ν, stR x k = some σ ∧ Rel base ν σ w ∧ Top ν σ ∧ rxA.conc ν = some rv ∧ ∀ j, Live ν σ j → L j)
theorem text_side {base : Nat} {ν : Nu} {σ : St} {w : World} (r : Rel base ν σ w) {side i : Nat} {m t : AV} {x s : ByteArray} (h : textIs σ side i m t = true) (hm : m.conc ν = some (.string s)) (hx : t.conc ν = some (.string x)) :
    ∃ (dA : AV) (u d : ByteArray) (k : Nat), dOf σ t = some dA ∧ dA.conc ν = some (.string d) ∧ s.size ≤ 100 ∧ u.data.toList = udpB s.data.toList ∧ d.data.toList = ipB i u.data.toList ++ List.replicate k 0 ∧ k ≤ 45 ∧ d.size ≤ 128 ∧ i ≤ 255 ∧ x.data.toList = ethB side i d.data.toList := by
  unfold textIs at h
  split at h <;> first | (cases h; done) | skip
  rename_i net seq dA hp
  split at h <;> first | (cases h; done) | skip
  rename_i id u lo hi e1 e2 hp2 hl
  split at h <;> first | (cases h; done) | skip
  rename_i e e3 hp3
  split at h <;> first | (cases h; done) | skip
  rename_i he
  have he := AV.eqb_ok _ _ he
  subst he
  have e1 := Nat.eq_of_beq_eq_true e1
  have e2 := Nat.eq_of_beq_eq_true e2
  have e3 := Nat.eq_of_beq_eq_true e3
  subst e1 e2 e3
  obtain ⟨x', hx', d, h1, h2, h3, h4, h5⟩ := provOf_ok r hp hx
  cases hx'
  obtain ⟨d', hd', uS, k, g1, g2, g3, g4, g5⟩ := provOf_ok r hp2 h1
  cases hd'
  obtain ⟨u', hu', s', k1, k2, k3⟩ := provOf_ok r hp3 g1
  cases hu'
  rw [hm] at k1
  cases k1
  exact ⟨dA, uS, d, k, by unfold dOf; rw [hp], h1, k2, k3, g5, g4, h2, h4, h5⟩
theorem text_whole {base : Nat} {ν : Nu} {σ : St} {w : World} (r : Rel base ν σ w) {i : Nat} {m ta tb : AV} {a b s : ByteArray} (h0 : textIs σ 0 i m ta = true) (h1 : textIs σ 1 i m tb = true) (hs : sameD σ ta tb = true) (hm : m.conc ν = some (.string s)) (ha : ta.conc ν = some (.string a)) (hb : tb.conc ν = some (.string b)) : Whole i s a b := by
  obtain ⟨d1, u1, e1, k1, p1, p2, p3, p4, p5, p6, p7, p8, p9⟩ := text_side r h0 hm ha
  obtain ⟨d2, u2, e2, k2, q1, q2, q3, q4, q5, q6, q7, q8, q9⟩ := text_side r h1 hm hb
  unfold sameD at hs
  rw [p1, q1] at hs
  have := AV.eqb_ok _ _ hs
  subst this
  rw [p2] at q2
  cases q2
  exact ⟨u1, e1, k1, p3, p4, p5, p6, p7, p8, p9, q9⟩
theorem outAll_get {σ : St} {c : List AV} {off : Nat} : ∀ {ms : List AV} {i0 : Nat}, outAll σ c off ms i0 = true → ∀ (j : Nat) (m : AV), ms[j]? = some m → ∃ l, cut c (off + (i0 + j) * 5) 5 = some l ∧ outOne σ (i0 + j) m l = true
  | [], i0, _, j, m, hm => by simp at hm
  | a :: ms, i0, h, j, m, hm => by
    unfold outAll at h
    split at h <;> first | (cases h; done) | skip
    rename_i l hc
    split at h <;> first | (cases h; done) | skip
    rename_i ho
    cases j with
    | zero => simp at hm; subst hm; exact ⟨l, hc, ho⟩
    | succ j =>
      obtain ⟨l', h1, h2⟩ := outAll_get h j m (by simpa using hm)
      rw [show i0 + 1 + j = i0 + (j + 1) by omega] at h1 h2
      exact ⟨l', h1, h2⟩
theorem msgs_len {ν : Nu} : ∀ {ms : List AV} {ss : List ByteArray}, MsgsAt ν ms ss → ms.length = ss.length
  | [], [], _ => rfl
  | _ :: _, _ :: _, ⟨_, h⟩ => by simp [msgs_len h]
  | [], _ :: _, k => k.elim
  | _ :: _, [], k => k.elim
theorem msgs_get {ν : Nu} : ∀ {ms : List AV} {ss : List ByteArray}, MsgsAt ν ms ss → ∀ (i : Nat) (s : ByteArray), ss[i]? = some s → ∃ m, ms[i]? = some m ∧ m.conc ν = some (.string s)
  | [], [], _, i, s, h => by simp at h
  | m :: ms, s0 :: ss, ⟨h1, h2⟩, i, s, h => by
    cases i with
    | zero => simp at h; subst h; exact ⟨m, rfl, h1⟩
    | succ i => simpa using msgs_get h2 i s (by simpa using h)
  | [], _ :: _, k, _, _, _ => k.elim
  | _ :: _, [], k, _, _, _ => k.elim
def isSym : AV → Bool
  | .sym _ _ => true
  | _ => false
theorem noSym : (objsR.all fun x => match x.2 with | .cells c _ => c.all fun v => !isSym v | _ => true) = true := by decide
theorem ltR : (objsR.all fun x => Nat.blt x.1 nxR && AO.ltB nxR x.2) = true := by decide
theorem one_ok {base : Nat} {ν : Nu} {σ : St} {w : World} (r : Rel base ν σ w) {c : List AV} {room : Option Nat} {k sh cap : Nat} (hr : Row ν w c room k sh cap) {i off : Nat} {m : AV} {l : List AV} {s : ByteArray} (hc : cut c (off + i * 5) 5 = some l) (h : outOne σ i m l = true) (hm : m.conc ν = some (.string s)) :
    FrAt w k (sh + off) i s ∧ ∃ v ∈ c, isSym v = true := by
  unfold outOne at h
  split at h <;> first | (cases h; done) | skip
  rename_i x y z cc ta tb
  split at h <;> first | (cases h; done) | skip
  rename_i lo hi hz
  split at h <;> first | (cases h; done) | skip
  rename_i e1
  split at h <;> first | (cases h; done) | skip
  rename_i e2
  split at h <;> first | (cases h; done) | skip
  rename_i e3
  split at h <;> first | (cases h; done) | skip
  rename_i t0 t1
  subst e1 e2 e3
  obtain ⟨q1, q2, q3, q4⟩ := cut_some hc
  have g2 := q4 2 (by omega)
  have g3 := q4 3 (by omega)
  have g4 := q4 4 (by omega)
  simp only [List.getElem?_cons_succ, List.getElem?_cons_zero] at g2 g3 g4
  obtain ⟨v2, a1, a2⟩ := hr.cell g2.symm
  obtain ⟨v3, b1, b2⟩ := hr.cell g3.symm
  obtain ⟨v4, d1, d2⟩ := hr.cell g4.symm
  obtain ⟨zz, hzz, rfl⟩ := conc_sym a2
  obtain ⟨e, he, hi⟩ := r.obj z _ hz
  rw [hzz] at he; cases he
  have hp : ∃ pv, provOf σ ta = some pv := by
    unfold textIs at t0
    split at t0
    · exact ⟨_, by assumption⟩
    · cases t0
  have hp' : ∃ pv, provOf σ tb = some pv := by
    unfold textIs at t1
    split at t1
    · exact ⟨_, by assumption⟩
    · cases t1
  obtain ⟨pv, hpv⟩ := hp
  obtain ⟨pv', hpv'⟩ := hp'
  obtain ⟨sa, rfl, _⟩ := provOf_ok r hpv b2
  obtain ⟨sb, rfl, _⟩ := provOf_ok r hpv' d2
  cases hi with
  | num _ _ _ hh =>
    refine ⟨⟨zz, sa, sb, hh, ?_, ?_, ?_, text_whole r t0 t1 h hm b2 d2⟩, _, List.mem_of_getElem? g2.symm, rfl⟩
    · rw [show sh + off + (i * 5 + 2) = sh + (off + i * 5 + 2) by omega]; exact a1
    · rw [show sh + off + (i * 5 + 3) = sh + (off + i * 5 + 3) by omega]; exact b1
    · rw [show sh + off + (i * 5 + 4) = sh + (off + i * 5 + 4) by omega]; exact d1
/-- All goes. -/
theorem pass_ok (hC : COk C1) {base n : Nat} {ss : List ByteArray} {tv rv : Value} {w : World} (h : SendAt base n ss tv rv w) (hn : n ≤ 10) :
    Calls Tryz.prog 9 #[tv, .int .i64 1073741824] w fun e w' => ∃ ov L, e = .returned (.tuple #[ov, .int .i64 0]) ∧ OutsAt w' ov ss L ∧ (∀ x, RecvAt base x 0 rv L w') ∧ (∀ j, L j → base ≤ j) ∧ Below base w w' := by
  obtain ⟨σ, ms, ν, h1, r, ht, h2, h3, h4⟩ := h.out
  obtain ⟨⟨σ', ms', o⟩, hp⟩ := isS_some (pass_all hn)
  unfold passS at hp
  rw [h1] at hp
  simp only at hp
  cases hc : callA C1 3000 9 [txA, i64 1073741824] σ with
  | none => rw [hc] at hp; cases hp
  | some res =>
    rw [hc] at hp
    split at hp <;> first | (cases hp; done) | skip
    rename_i o' e σ2 heq
    cases heq
    split at hp <;> first | (cases hp; done) | skip
    rename_i ho ha
    split at hp <;> first | (cases hp; done) | skip
    rename_i he
    cases hp
    subst he
    refine (callA_ok hC hc r ht (concL_mk h3 (concL_mk rfl (concL_nil _)))).mono ?_
    rintro e w' ⟨ν', c, rfl, k1, k2, k3⟩
    obtain ⟨l, k4, rfl⟩ := conc_tup k1
    obtain ⟨ov, v2, k5, k6, rfl⟩ := concL_inv2 k4
    cases k6
    have hm := h2.mono k3.le
    obtain ⟨rc, tc⟩ := rel_cut k2 ha ltR
    refine ⟨ov, fun j => Live (cutN ν' nxR) stR0 j, rfl, ?_, fun x => ⟨stR0, _, rfl, rc, tc, ?_, fun j hj => hj⟩, fun j hj => rc.own j hj, below_run r k3⟩
    · unfold outIs at ho
      split at ho
      · split at ho <;> first | (cases ho; done) | skip
        left
        unfold AV.conc at k5
        cases k5
        exact ⟨List.eq_nil_of_length_eq_zero (msgs_len hm).symm, rfl⟩
      · rename_i m0 ms0
        split at ho <;> first | (cases ho; done) | skip
        rename_i b off q n' d
        split at ho <;> first | (cases ho; done) | skip
        rename_i cc room hb
        split at ho <;> first | (cases ho; done) | skip
        rename_i hlen
        have hlen := Nat.eq_of_beq_eq_true hlen
        have hms := msgs_len hm
        obtain ⟨k', s', mm, g1, g2, rfl⟩ := conc_slu k5
        have hn1 : 1 ≤ n' := by rw [hlen]; simp
        obtain ⟨e, he, hi⟩ := k2.obj b _ hb
        rw [g1] at he; cases he
        cases hi with
        | cells _ _ _ _ _ hr =>
          right
          refine ⟨k', s' + off, _, by rw [if_pos (by omega), hlen, hms], ?_, hr.lt, ?_⟩
          · rintro ⟨i', o', s2, c2, p1, p2, p3⟩
            obtain ⟨p4, p5⟩ := cutN_some p3
            rcases heapAO_get p1 with p6 | p6
            · have p7 := hasAll_ok ha i' o' p6
              have := k2.inj _ _ _ _ _ _ _ _ _ hb p7 rfl p2 g1 p5
              subst this
              rw [hb] at p7
              cases p7
              obtain ⟨m1, hm1⟩ : ∃ m1, (m0 :: ms0)[0]? = some m1 := ⟨_, rfl⟩
              obtain ⟨l1, hl1, hl2⟩ := outAll_get ho 0 m1 hm1
              obtain ⟨s1, hs1⟩ : ∃ s1, ss[0]? = some s1 := by
                cases hss : ss with
                | nil => rw [hss] at hms; simp at hms
                | cons a b => exact ⟨a, rfl⟩
              obtain ⟨m2, hm2, hm3⟩ := msgs_get hm 0 s1 hs1
              rw [hm1] at hm2
              cases hm2
              obtain ⟨_, v, hv1, hv2⟩ := one_ok k2 hr hl1 hl2 hm3
              have := List.all_eq_true.1 noSym _ p6
              simp only at this
              have := List.all_eq_true.1 this v hv1
              rw [hv2] at this
              cases this
            · rw [Tr.get_nil] at p6; cases p6
          · intro i s hs
            obtain ⟨m, hm1, hm2⟩ := msgs_get hm i s hs
            obtain ⟨l1, hl1, hl2⟩ := outAll_get ho i m hm1
            rw [Nat.zero_add] at hl1 hl2
            exact (one_ok k2 hr hl1 hl2 hm2).1
    · have := AV.conc_mono k3.le _ _ h4
      obtain ⟨kk, s, nn, q1, rfl⟩ := conc_ptr this
      unfold rxA AV.conc
      rw [cutN_lt (by decide), q1]
end Go.Proofs.YtdgjcjhicbgfaaaGreat
