/- The queues and the document's queues answer alike. Conditions: plain lemmas. -/
import Derived.Test.YtjhpeelgehchiaaRefS
namespace Go.Proofs.Ytjhpeelgehchiaa
open Go.RowKit Go.Proofs.YtjhpeelgehchiaaW.PrintWords
set_option linter.unusedVariables false

def sel (l : List Tx) (k : Nat) : List ByteArray := (l.filter fun p => decide (p.1 = k)).map (·.2)
structure Rel (s : St) (r : RS) : Prop where
  m : s.many = r.many
  d : s.depth = r.depth
  t : s.turn = r.turn
  l : ∀ k, s.L k = sel r.l k
  lt : ∀ p ∈ r.l, p.1 < r.many
theorem cnt_sel (l : List Tx) (k : Nat) : cnt l k = (sel l k).length := by
  unfold cnt sel
  rw [List.length_map]
  congr 1
  apply List.filter_congr
  intro p _
  by_cases hp : p.1 = k
  · simp [hp]
  · have : ¬ ((p.1 : Int) = (k : Int)) := by omega
    simp [hp, this]
theorem Rel.cnt {s : St} {r : RS} (h : Rel s r) (k : Nat) : cnt r.l k = (s.L k).length := by rw [h.l k, cnt_sel]
theorem cnt_none {l : List Tx} {i : Int} (h : ∀ p ∈ l, (p.1 : Int) ≠ i) : cnt l i = 0 := by
  unfold Go.Proofs.Ytjhpeelgehchiaa.cnt
  rw [List.length_eq_zero_iff, List.filter_eq_nil_iff]
  intro p hp
  simpa using h p hp
theorem Rel.lenI {s : St} {r : RS} (h : Rel s r) (hk : s.ok) (i : Int) : s.lenI i = Go.Proofs.Ytjhpeelgehchiaa.cnt r.l i := by
  unfold St.lenI
  by_cases hi : 0 ≤ i ∧ i < s.many
  · rw [if_pos hi]
    obtain ⟨k, rfl⟩ : ∃ k : Nat, i = k := ⟨i.toNat, by omega⟩
    rw [h.cnt, Int.toNat_natCast]
  · rw [if_neg hi, cnt_none]
    intro p hp
    have := h.lt p hp
    rw [← h.m] at this
    omega
theorem sel_cons (p : Tx) (l : List Tx) (k : Nat) : sel (p :: l) k = if p.1 = k then p.2 :: sel l k else sel l k := by
  unfold sel
  by_cases h : p.1 = k <;> simp [h]
theorem sel_append (l m : List Tx) (k : Nat) : sel (l ++ m) k = sel l k ++ sel m k := by
  unfold sel
  rw [List.filter_append, List.map_append]
theorem all_of {l : List Tx} (h : ∀ p ∈ l, p.1 < 4) : (sel l 0).length + (sel l 1).length + (sel l 2).length + (sel l 3).length = l.length := by
  induction l with
  | nil => rfl
  | cons p l ih =>
    have h4 := h p (by simp)
    have := ih fun q hq => h q (by simp [hq])
    rcases four h4 with e | e | e | e <;> simp [sel_cons, e] <;> omega
theorem Rel.all {s : St} {r : RS} (h : Rel s r) (hk : s.ok) : s.all = r.l.length := by
  unfold St.all
  rw [h.l 0, h.l 1, h.l 2, h.l 3]
  exact all_of fun p hp => by have := h.lt p hp; have := h.m; have := hk.m1; omega
theorem Rel.fresh (m d : Nat) : Rel (St.fresh m d) (RS.fresh m d) := ⟨rfl, rfl, rfl, fun _ => rfl, fun p hp => by simp [RS.fresh] at hp⟩
theorem sel_same (j : Nat) (ys : List ByteArray) : sel (ys.map fun t => (j, t)) j = ys := by
  induction ys with
  | nil => rfl
  | cons y ys ih => simp [sel_cons, ih]
theorem sel_other {j k : Nat} (h : j ≠ k) (ys : List ByteArray) : sel (ys.map fun t => (j, t)) k = [] := by
  induction ys with
  | nil => rfl
  | cons y ys ih => simp [sel_cons, ih, h]
theorem Rel.push {s : St} {r : RS} (h : Rel s r) {j : Nat} (hj : j < r.many) (ys : List ByteArray) : Rel (s.push j ys) (r.app j ys) := by
  refine ⟨h.m, h.d, h.t, fun k => ?_, fun p hp => ?_⟩
  · show upd s.L j _ k = sel (r.l ++ _) k
    rw [sel_append]
    by_cases hk : k = j
    · subst hk
      rw [upd_same, sel_same, h.l]
    · rw [upd_ne _ _ hk, sel_other (fun e => hk e.symm), List.append_nil, h.l]
  · show p.1 < r.many
    rcases List.mem_append.1 hp with h1 | h1
    · exact h.lt p h1
    · obtain ⟨t, _, rfl⟩ := List.mem_map.1 h1
      exact hj
/-- The first text of a queue, in the one list. -/
theorem first_of {l : List Tx} {T : Nat} (h : sel l T ≠ []) : ∃ l1 x l2, l = l1 ++ (T, x) :: l2 ∧ (∀ p ∈ l1, p.1 ≠ T) := by
  induction l with
  | nil => exact absurd rfl h
  | cons p l ih =>
    by_cases hp : p.1 = T
    · exact ⟨[], p.2, l, by rw [← hp]; rfl, fun q hq => by simp at hq⟩
    · rw [sel_cons, if_neg hp] at h
      obtain ⟨l1, x, l2, h1, h2⟩ := ih h
      refine ⟨p :: l1, x, l2, by rw [h1]; rfl, fun q hq => ?_⟩
      rcases List.mem_cons.1 hq with rfl | hq
      · exact hp
      · exact h2 q hq
theorem sel_none {l : List Tx} {T : Nat} (h : ∀ p ∈ l, p.1 ≠ T) : sel l T = [] := by
  induction l with
  | nil => rfl
  | cons p l ih => rw [sel_cons, if_neg (h p (by simp)), ih fun q hq => h q (by simp [hq])]
theorem Rel.pop {s : St} {r : RS} (h : Rel s r) {T : Nat} {x : ByteArray} {l1 l2 : List Tx} (hl : r.l = l1 ++ (T, x) :: l2) (h1 : ∀ p ∈ l1, p.1 ≠ T) :
    s.L T = x :: sel l2 T ∧ Rel (s.pop T) (r.took T (l1 ++ l2)) := by
  have hT : s.L T = x :: sel l2 T := by rw [h.l, hl, sel_append, sel_none h1, sel_cons, if_pos rfl]; rfl
  refine ⟨hT, h.m, h.d, by show (T + 1) % s.many = (T + 1) % r.many; rw [h.m], fun k => ?_, fun p hp => ?_⟩
  · show upd s.L T _ k = sel (l1 ++ l2) k
    rw [sel_append]
    by_cases hk : k = T
    · subst hk
      rw [upd_same, hT, sel_none h1]
      rfl
    · rw [upd_ne _ _ hk, h.l, hl, sel_append, sel_cons, if_neg (fun e => hk e.symm)]
  · apply h.lt
    rw [hl]
    rcases List.mem_append.1 hp with h2 | h2
    · simp [h2]
    · simp [h2]
theorem Rel.next {s : St} {r : RS} (h : Rel s r) (hk : s.ok) {d T : Nat} (hn : s.isNext d T) : RNext r d T := by
  refine ⟨by rw [← h.m]; exact hk.m0, by rw [← h.m]; exact hk.m1, by rw [← h.m, ← h.t]; exact hk.t, by rw [← h.m]; exact hn.lt', by rw [← h.m, ← h.t]; exact hn.eq, ?_, fun e he => ?_⟩
  · rw [h.cnt]
    have := hn.has
    exact fun h0 => this (List.eq_nil_of_length_eq_zero h0)
  · rw [h.cnt, ← h.m, ← h.t, hn.none e he]
    rfl
theorem Rel.clear {s : St} {r : RS} (h : Rel s r) {s' : St} (h1 : s'.L = fun _ => []) (h2 : s'.many = s.many) (h3 : s'.depth = s.depth) (h4 : s'.turn = 0) : Rel s' r.clear :=
  ⟨h2.trans h.m, h3.trans h.d, h4, fun k => by rw [h1]; rfl, fun p hp => by simp [RS.clear] at hp⟩

/-- Both, side by side. -/
structure Two (w0 W : World) (g h : Nat) (s : St) (r : RS) : Prop where
  q : In w0 W g s
  rh : RHeld W h r
  ap : Apart W g h
  mr : ∀ k, Mine W h k → w0.heap.size ≤ k
  rel : Rel s r
theorem In.owns {w0 W : World} {g : Nat} {s : St} (h : In w0 W g s) : Owns W g := fun k hk => h.held.mine_lt hk
theorem Two.next {w0 W W' : World} {g h : Nat} {s : St} {r : RS} (t : Two w0 W g h s r) (hb : Below W.heap.size W W') : Two w0 W' g h s r := by
  have e0 := hb.block g (t.q.owns g (.inl rfl))
  have e1 := hb.block h (t.rh.owns h (.inl rfl))
  exact ⟨t.q.next hb, t.rh.keep fun k hk _ => hb.block k hk, apart_keep e0 e1 t.ap, fun k hk => t.mr k ((mine_same e1 k).1 hk), t.rel⟩
theorem Two.drewN {w0 W : World} {g h : Nat} {s : St} {r : RS} (t : Two w0 W g h s r) (n : Nat) : Two w0 (W.drewN n) g h s r := t.next (below_drewN (Below.refl _ _) n)
/-- The queues have moved, the document's not yet. -/
structure Half (w0 W : World) (g h : Nat) (s' : St) (r : RS) : Prop where
  q : In w0 W g s'
  rh : RHeld W h r
  ap : Apart W g h
  mr : ∀ k, Mine W h k → w0.heap.size ≤ k
theorem Two.queue {w0 W W' : World} {g h : Nat} {s s' : St} {r : RS} (t : Two w0 W g h s r) (hp : PutPost W g s' W') (hk : s'.ok) : Half w0 W' g h s' r := by
  have s1 := still2 hp.2 t.ap
  have e1 := s1 h (t.rh.owns h (.inl rfl)) (.inl rfl)
  exact ⟨t.q.step hp hk, t.rh.keep s1, apart_turn2 hp.2 t.rh.owns t.ap, fun k hm => t.mr k ((mine_same e1 k).1 hm)⟩
theorem Two.half {w0 W : World} {g h : Nat} {s : St} {r : RS} (t : Two w0 W g h s r) : Half w0 W g h s r := ⟨t.q, t.rh, t.ap, t.mr⟩
theorem Half.ref {w0 W W' : World} {g h : Nat} {s : St} {r r' : RS} (t : Half w0 W g h s r) (hp : RPost W h r' W') (hr : Rel s r') : Two w0 W' g h s r' := by
  have s1 := still2 hp.2 t.ap.symm
  have e0 := s1 g (t.q.owns g (.inl rfl)) (.inl rfl)
  exact ⟨t.q.turn hp.2 t.ap.symm t.mr, hp.1, (apart_turn2 hp.2 t.q.owns t.ap.symm).symm, mine_up t.q.below.size hp.2 t.mr, hr⟩
theorem Two.len {w0 W : World} {g h : Nat} {s : St} {r : RS} (t : Two w0 W g h s r) : r.l.length ≤ 4096 := by
  rw [← t.rel.all t.q.ok]
  exact t.q.ok.all_le
end Go.Proofs.Ytjhpeelgehchiaa
