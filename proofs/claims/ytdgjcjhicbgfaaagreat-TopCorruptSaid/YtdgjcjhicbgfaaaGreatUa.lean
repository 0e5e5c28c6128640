/- A part of the machine's memory by itself; texts that are brought in. Conditions: none but those that the lemmas name. -/
import Derived.Test.YtdgjcjhicbgfaaaGreatRa
import Derived.Test.YtdgjcjhicbgfaaaGreatPa
set_option linter.unusedVariables false
set_option linter.unusedSimpArgs false
set_option linter.unusedSimpArgs false
set_option linter.unusedVariables false
namespace Go.Proofs.YtdgjcjhicbgfaaaGreat
open Go.RowKit

def cutN (ν : Nu) (n : Nat) : Nu := fun b => if b < n then ν b else none
theorem cutN_lt {ν : Nu} {n b : Nat} (h : b < n) : cutN ν n b = ν b := if_pos h
theorem cutN_some {ν : Nu} {n b : Nat} {e : ET} (h : cutN ν n b = some e) : b < n ∧ ν b = some e := by
  unfold cutN at h
  split at h
  · exact ⟨by assumption, h⟩
  · cases h
mutual
def AV.ltB (n : Nat) : AV → Bool
  | .bool _ | .int .. | .str _ | .nptr | .nsl | .nmap | .nfn | .nif => true
  | .sym b _ => Nat.blt b n
  | .txt b => Nat.blt b n
  | .ptr b _ => Nat.blt b n
  | .sl b _ _ _ => Nat.blt b n
  | .slu b _ _ _ _ => Nat.blt b n
  | .map b => Nat.blt b n
  | .fn _ a c => AV.ltBL n a && AV.ltBL n c
  | .iface _ v => AV.ltB n v
  | .agg cs => AV.ltBL n cs
  | .tup cs => AV.ltBL n cs
def AV.ltBL (n : Nat) : List AV → Bool
  | [] => true
  | v :: r => AV.ltB n v && AV.ltBL n r
end
mutual
theorem conc_cut {ν : Nu} {n : Nat} : ∀ (v : AV), v.ltB n = true → v.conc (cutN ν n) = v.conc ν
  | .bool _, _ | .int .., _ | .str _, _ | .nptr, _ | .nsl, _ | .nmap, _ | .nfn, _ | .nif, _ => by unfold AV.conc; rfl
  | .sym b _, h | .txt b, h | .ptr b _, h | .sl b _ _ _, h | .slu b _ _ _ _, h | .map b, h => by
    unfold AV.ltB at h
    unfold AV.conc
    rw [cutN_lt (blt_lt h)]
  | .fn f a c, h => by
    unfold AV.ltB at h
    rw [Bool.and_eq_true] at h
    unfold AV.conc
    rw [concL_cut a h.1, concL_cut c h.2]
  | .iface t v, h => by
    unfold AV.ltB at h
    unfold AV.conc
    rw [conc_cut v h]
  | .agg cs, h | .tup cs, h => by
    unfold AV.ltB at h
    unfold AV.conc
    rw [concL_cut cs h]
theorem concL_cut {ν : Nu} {n : Nat} : ∀ (l : List AV), AV.ltBL n l = true → AV.concL (cutN ν n) l = AV.concL ν l
  | [], _ => by unfold AV.concL; rfl
  | v :: r, h => by
    unfold AV.ltBL at h
    rw [Bool.and_eq_true] at h
    unfold AV.concL
    rw [conc_cut v h.1, concL_cut r h.2]
end
def AO.ltB (n : Nat) : AO → Bool
  | .cells c _ => AV.ltBL n c
  | .map es _ => es.all fun x => AV.ltB n x.1 && AV.ltB n x.2.1
  | _ => false
theorem ltBL_get {n : Nat} : ∀ {l : List AV}, AV.ltBL n l = true → ∀ (i : Nat) (v : AV), l[i]? = some v → v.ltB n = true
  | [], _, i, v, hv => by simp at hv
  | u :: r, h, i, v, hv => by
    unfold AV.ltBL at h
    rw [Bool.and_eq_true] at h
    cases i with
    | zero => simp at hv; subst hv; exact h.1
    | succ i => exact ltBL_get h.2 i v (by simpa using hv)
theorem heapAO_get : ∀ {l : List (Nat × AO)} {t : Tr AO} {i : Nat} {o : AO}, (heapAO l t).get i = some o → (i, o) ∈ l ∨ t.get i = some o
  | [], t, i, o, h => .inr h
  | (j, p) :: l, t, i, o, h => by
    unfold heapAO at h
    rcases heapAO_get h with h1 | h1
    · exact .inl (List.mem_cons_of_mem _ h1)
    · rw [Tr.get_set] at h1
      split at h1
      · rename_i e; cases h1; subst e; exact .inl (by simp)
      · exact .inr h1
theorem ents_cut {ν : Nu} {n : Nat} : ∀ {a : List (AV × AV × Nat)} {b : List MapEntry}, (a.all fun x => AV.ltB n x.1 && AV.ltB n x.2.1) = true → Ents ν a b → Ents (cutN ν n) a b
  | [], [], _, _ => trivial
  | x :: a, e :: b, h, ⟨h1, h2⟩ => by
    simp only [List.all_cons, Bool.and_eq_true] at h
    exact ⟨⟨by rw [conc_cut _ h.1.1]; exact h1.key, by rw [conc_cut _ h.1.2]; exact h1.val, h1.born⟩, ents_cut h.2 h2⟩
  | [], _ :: _, _, k => k.elim
  | _ :: _, [], _, k => k.elim
/-- A part of the memory by itself. -/
theorem rel_cut {base : Nat} {ν : Nu} {σ : St} {w : World} (r : Rel base ν σ w) {l : List (Nat × AO)} {n : Nat} (hall : hasAll σ l = true) (hlt : (l.all fun x => Nat.blt x.1 n && AO.ltB n x.2) = true) :
    Rel base (cutN ν n) ⟨heapAO l .nil, n⟩ w ∧ Top (cutN ν n) ⟨heapAO l .nil, n⟩ := by
  have hget : ∀ i o, (heapAO l .nil).get i = some o → (i, o) ∈ l ∧ σ.heap.get i = some o ∧ i < n ∧ AO.ltB n o = true := by
    intro i o h
    rcases heapAO_get h with h1 | h1
    · have h2 := List.all_eq_true.1 hlt _ h1
      rw [Bool.and_eq_true] at h2
      exact ⟨h1, hasAll_ok hall i o h1, blt_lt h2.1, h2.2⟩
    · rw [Tr.get_nil] at h1; cases h1
  refine ⟨⟨?_, ?_, ?_, ?_, r.size⟩, fun b hb => if_neg (by show ¬ b < n; exact Nat.not_lt.2 hb)⟩
  · intro i o h
    obtain ⟨_, h2, h3, h4⟩ := hget i o h
    obtain ⟨e, he, hi⟩ := r.obj i o h2
    refine ⟨e, by rw [cutN_lt h3]; exact he, ?_⟩
    cases hi with
    | dead => cases h4
    | num => cases h4
    | txt => cases h4
    | cells c room k sh cap hr =>
      refine .cells _ _ _ _ _ (hr.cast rfl ?_)
      rintro j v u hv ⟨v0, hv0, hc⟩
      rw [hv] at hv0
      cases hv0
      rw [conc_cut v (ltBL_get h4 j v hv)]
      exact hc
    | map es clock k sh cap hr =>
      obtain ⟨el, g1, g2⟩ := hr.out
      exact .map _ _ _ _ _ ⟨el, g1, ents_cut h4 g2⟩
  · intro i i' o o' k s s' c c' h1 h2 p1 p2 n1 n2
    exact r.inj _ _ _ _ _ _ _ _ _ (hget i o h1).2.1 (hget i' o' h2).2.1 p1 p2 (cutN_some n1).2 (cutN_some n2).2
  · rintro k ⟨i, o, s, c, h1, h2, h3⟩
    exact r.own k ⟨i, o, s, c, (hget i o h1).2.1, h2, (cutN_some h3).2⟩
  · intro i o h
    exact (hget i o h).2.2.1
/-- A text that is brought in. -/
theorem newTxt_ok {base : Nat} {ν : Nu} {σ σ' : St} {w : World} (r : Rel base ν σ w) (ht : Top ν σ) {lo hi : Int} {pv : Prov} {t : AV} (h : newTxt σ lo hi pv = (t, σ')) {s : ByteArray} (hlo : lo ≤ s.size) (hhi : (s.size : Int) ≤ hi) (hp : ProvIs ν pv s) :
    ∃ ν', Rel base ν' σ' w ∧ Top ν' σ' ∧ Run ν σ w ν' σ' w ∧ t.conc ν' = some (.string s) := by
  unfold newTxt at h
  cases h
  have hn : ν σ.next = none := ht _ (Nat.le_refl _)
  obtain ⟨r1, q1⟩ := r.add (Grow.refl w) (.num lo hi) (.num s.size) hn (.num _ _ _ ⟨hlo, hhi⟩) (fun k s c he => by cases he)
  have hn2 : (ν.put σ.next (.num s.size)) (σ.add (.num lo hi)).next = none := by
    rw [Nu.put_ne _ _ (by show σ.next + 1 ≠ σ.next; omega)]
    exact ht _ (by show σ.next ≤ σ.next + 1; omega)
  obtain ⟨r2, q2⟩ := r1.add (Grow.refl w) (.txt (.sym σ.next 0) pv) (.txt s) hn2 (.txt _ _ _ (by
    unfold AV.conc
    rw [Nu.put_self]
    simp) (hp.mono q1.le)) (fun k s c he => by cases he)
  refine ⟨_, r2, ht.run (q1.trans q2), q1.trans q2, ?_⟩
  show AV.conc _ (.txt (σ.next + 1)) = _
  unfold AV.conc
  rw [show (σ.add (.num lo hi)).next = σ.next + 1 from rfl, Nu.put_self]
theorem newTxt_ok' {base : Nat} {ν : Nu} {σ : St} {w : World} (r : Rel base ν σ w) (ht : Top ν σ) (lo hi : Int) (pv : Prov) {s : ByteArray} (hlo : lo ≤ s.size) (hhi : (s.size : Int) ≤ hi) (hp : ProvIs ν pv s) :
    ∃ ν', Rel base ν' (newTxt σ lo hi pv).2 w ∧ Top ν' (newTxt σ lo hi pv).2 ∧ Run ν σ w ν' (newTxt σ lo hi pv).2 w ∧ (newTxt σ lo hi pv).1.conc ν' = some (.string s) :=
  newTxt_ok r ht rfl hlo hhi hp
/-- A number that is brought in. -/
theorem newNum_ok {base : Nat} {ν : Nu} {σ : St} {w : World} (r : Rel base ν σ w) (ht : Top ν σ) {lo hi z : Int} (hlo : lo ≤ z) (hhi : z ≤ hi) :
    ∃ ν', Rel base ν' (σ.add (.num lo hi)) w ∧ Top ν' (σ.add (.num lo hi)) ∧ Run ν σ w ν' (σ.add (.num lo hi)) w ∧ ∀ c : Int, (AV.sym σ.next c).conc ν' = some (.int .i64 (z + c)) := by
  have hn : ν σ.next = none := ht _ (Nat.le_refl _)
  obtain ⟨r1, q1⟩ := r.add (Grow.refl w) (.num lo hi) (.num z) hn (.num _ _ _ ⟨hlo, hhi⟩) (fun k s c he => by cases he)
  refine ⟨_, r1, ht.run q1, q1, fun c => ?_⟩
  unfold AV.conc
  rw [Nu.put_self]
/-- What a frame is in the world: when it ended, the message in it, its two texts. -/
structure Whole (i : Nat) (s a b : ByteArray) : Prop where
  mk :: (out : ∃ (u d : ByteArray) (k : Nat), s.size ≤ 100 ∧ u.data.toList = udpB s.data.toList ∧ d.data.toList = ipB i u.data.toList ++ List.replicate k 0 ∧ k ≤ 45 ∧ d.size ≤ 128 ∧ i ≤ 255 ∧ a.data.toList = ethB 0 i d.data.toList ∧ b.data.toList = ethB 1 i d.data.toList)
def BadT (a : ByteArray) : Prop := 64 ≤ a.size ∧ a.size ≤ 147 ∧ sealB (a.data.toList.take (a.size - 4)) ≠ a.data.toList
theorem Whole.len {i : Nat} {s a b : ByteArray} (h : Whole i s a b) : (64 ≤ a.size ∧ a.size ≤ 147) ∧ (64 ≤ b.size ∧ b.size ≤ 147) := by
  obtain ⟨u, d, k, _, _, _, _, h5, _, h6, h7⟩ := h.out
  have ha : a.size = 19 + max d.size 45 := by rw [← str_len, h6, ethB_len, str_len]
  have hb : b.size = 19 + max d.size 45 := by rw [← str_len, h7, ethB_len, str_len]
  omega
theorem frame_whole {base : Nat} {ν : Nu} {σ σ5 : St} {w : World} (r : Rel base ν σ w) (ht : Top ν σ) {i : Nat} {tk m a b : AV} (h : frameR σ i false = (tk, m, a, b, σ5)) {z : Int} {s ta tb : ByteArray} (hz : 64 ≤ z ∧ z ≤ 147) (hw : Whole i s ta tb) :
    ∃ ν', Rel base ν' σ5 w ∧ Top ν' σ5 ∧ Run ν σ w ν' σ5 w ∧ (∀ side : Nat, (tickAt tk i side).conc ν' = some (.int .i64 (z + (12500 * (i : Int) + 20 + side)))) ∧ m.conc ν' = some (.string s) ∧ a.conc ν' = some (.string ta) ∧ b.conc ν' = some (.string tb) := by
  unfold frameR tickR at h
  cases h
  have hlen := hw.len
  obtain ⟨u, d, k, g1, g2, g3, g4, g5, g6, g7, g8⟩ := hw.out
  have hu : u.size = 8 + s.size := by rw [← str_len, g2, udpB_len, str_len]
  have hd : d.size = 20 + u.size + k := by rw [← str_len, g3, List.length_append, ipB_len, List.length_replicate, str_len]
  obtain ⟨ν0, r0, t0, q0, c0⟩ := newNum_ok (lo := 64) (hi := 147) r ht hz.1 hz.2
  obtain ⟨ν1, r1, t1, q1, c1⟩ := newTxt_ok' r0 t0 0 100 .any (s := s) (by omega) (by omega) trivial
  obtain ⟨ν2, r2, t2, q2, c2⟩ := newTxt_ok' r1 t1 8 108 (.udp _) (s := u) (by omega) (by omega) ⟨s, c1, g1, g2⟩
  obtain ⟨ν3, r3, t3, q3, c3⟩ := newTxt_ok' r2 t2 28 128 (.ip i _) (s := d) (by omega) (by omega) ⟨u, k, c2, by omega, by omega, g4, g3⟩
  obtain ⟨ν4, r4, t4, q4, c4⟩ := newTxt_ok' r3 t3 64 147 (.eth 0 i _) (s := ta) (by omega) (by omega) ⟨d, c3, g5, by omega, g6, g7⟩
  have q34 := q3.trans q4
  obtain ⟨ν5, r5, t5, q5, c5⟩ := newTxt_ok' r4 t4 64 147 (.eth 1 i _) (s := tb) (by omega) (by omega) ⟨d, AV.conc_mono q4.le _ _ c3, g5, by omega, g6, g8⟩
  refine ⟨ν5, r5, t5, q0.trans (q1.trans (q2.trans (q3.trans (q4.trans q5)))), fun side => ?_, AV.conc_mono (q2.le.trans (q3.le.trans (q4.le.trans q5.le))) _ _ c1, AV.conc_mono q5.le _ _ c4, c5⟩
  exact AV.conc_mono (q1.le.trans (q2.le.trans (q3.le.trans (q4.le.trans q5.le)))) _ _ (c0 _)
theorem frame_bad {base : Nat} {ν : Nu} {σ σ5 : St} {w : World} (r : Rel base ν σ w) (ht : Top ν σ) {i : Nat} (hi : i ≤ 255) {tk m a b : AV} (h : frameR σ i true = (tk, m, a, b, σ5)) {z : Int} {ta tb : ByteArray} (hz : 64 ≤ z ∧ z ≤ 147) (ha : BadT ta) (hb : BadT tb) :
    ∃ ν', Rel base ν' σ5 w ∧ Top ν' σ5 ∧ Run ν σ w ν' σ5 w ∧ (∀ side : Nat, (tickAt tk i side).conc ν' = some (.int .i64 (z + (12500 * (i : Int) + 20 + side)))) ∧ a.conc ν' = some (.string ta) ∧ b.conc ν' = some (.string tb) := by
  unfold frameR tickR at h
  cases h
  obtain ⟨u, hu⟩ : ∃ u : ByteArray, u = ⟨(udpB []).toArray⟩ := ⟨_, rfl⟩
  obtain ⟨d, hd⟩ : ∃ d : ByteArray, d = ⟨(ipB i u.data.toList).toArray⟩ := ⟨_, rfl⟩
  have hul : u.data.toList = udpB [] := by rw [hu]
  have hdl : d.data.toList = ipB i u.data.toList := by rw [hd]
  have hus : u.size = 8 := by rw [← str_len, hul, udpB_len]; rfl
  have hds : d.size = 28 := by rw [← str_len, hdl, ipB_len, str_len, hus]
  obtain ⟨ν0, r0, t0, q0, c0⟩ := newNum_ok (lo := 64) (hi := 147) r ht hz.1 hz.2
  obtain ⟨ν1, r1, t1, q1, c1⟩ := newTxt_ok' r0 t0 0 100 .any (s := ⟨#[]⟩) (by decide) (by decide) trivial
  obtain ⟨ν2, r2, t2, q2, c2⟩ := newTxt_ok' r1 t1 8 108 (.udp _) (s := u) (by omega) (by omega) ⟨⟨#[]⟩, c1, by decide, hul⟩
  obtain ⟨ν3, r3, t3, q3, c3⟩ := newTxt_ok' r2 t2 28 128 (.ip i _) (s := d) (by omega) (by omega) ⟨u, 0, c2, by omega, by omega, by omega, by rw [hdl]; simp⟩
  obtain ⟨ν4, r4, t4, q4, c4⟩ := newTxt_ok' r3 t3 64 147 .bad (s := ta) (by have := ha.1; omega) (by have := ha.2.1; omega) ⟨ha.1, by have := ha.2.1; omega, ha.2.2⟩
  obtain ⟨ν5, r5, t5, q5, c5⟩ := newTxt_ok' r4 t4 64 147 .bad (s := tb) (by have := hb.1; omega) (by have := hb.2.1; omega) ⟨hb.1, by have := hb.2.1; omega, hb.2.2⟩
  refine ⟨ν5, r5, t5, q0.trans (q1.trans (q2.trans (q3.trans (q4.trans q5)))), fun side => ?_, AV.conc_mono q5.le _ _ c4, c5⟩
  exact AV.conc_mono (q1.le.trans (q2.le.trans (q3.le.trans (q4.le.trans q5.le)))) _ _ (c0 _)
end Go.Proofs.YtdgjcjhicbgfaaaGreat
