/- A filter of frames, the given one and the document's: how it lies. Conditions: plain lemmas. -/
import Derived.Test.YtdhgallfplbhpaaGen
namespace Go.Proofs.Ytdhgallfplbhpaa
open Go.RowKit Go.Proofs.YtdhgallfplbhpaaW.PrintWords
set_option linter.unusedVariables false

/-- A frame that is remembered: its number, when it came, on which networks (1, 2, 3: both). -/
structure Fr where
  seq : Int
  tick : Int
  nets : Nat
structure FS where
  l : List Fr
  skew : Int
  now : Int
  thr : Int
  twi : Int
  old : Int
/-- How the frames of a filter lie. -/
structure Kd where
  T : TypeId
  E : TypeId
  S : TypeId
  sz : Nat
  bytes : Nat
  enc : Fr → List Value
  zero : Value
  len : ∀ f, (enc f).length = sz
  one : ∀ f, ∀ u ∈ enc f, u.oneCell' = true
  ne : T ≠ E
  pos : 0 < sz
  under : Try.prog.underlying S = some (.slice E)
  info : (Try.prog.info? E).map (fun i => (i.zero, i.size, i.bytes)) = some (some zero, sz, bytes)
  zsz : zero.cells.size = sz
  small : bytes ≤ 1000
def Kd.encs (K : Kd) : List Fr → List Value
  | [] => []
  | f :: l => K.enc f ++ K.encs l
variable {K : Kd}
theorem encs_length : ∀ l : List Fr, (K.encs l).length = l.length * K.sz
  | [] => by simp [Kd.encs]
  | f :: l => by simp [Kd.encs, encs_length l, K.len, Nat.add_mul]; omega
theorem encs_append : ∀ l m : List Fr, K.encs (l ++ m) = K.encs l ++ K.encs m
  | [], m => rfl
  | f :: l, m => by simp [Kd.encs, encs_append l m]
theorem encs_one : ∀ l : List Fr, ∀ u ∈ K.encs l, u.oneCell' = true
  | [], u, h => by simp [Kd.encs] at h
  | f :: l, u, h => by
    simp only [Kd.encs, List.mem_append] at h
    rcases h with h | h
    · exact K.one f u h
    · exact encs_one l u h
theorem encs_drop : ∀ (l : List Fr) (k : Nat), K.encs (l.drop k) = (K.encs l).drop (k * K.sz)
  | [], k => by simp [Kd.encs]
  | f :: l, 0 => by simp
  | f :: l, k + 1 => by
    have := encs_drop l k
    have h1 : (K.enc f).drop ((k + 1) * K.sz) = [] := List.drop_eq_nil_of_le (by rw [K.len, Nat.add_mul]; omega)
    rw [List.drop_succ_cons, this, Kd.encs, List.drop_append, K.len, h1, List.nil_append, show (k + 1) * K.sz - K.sz = k * K.sz by rw [Nat.add_mul]; omega]
theorem encs_get : ∀ (l : List Fr) (i : Nat) (f : Fr), l[i]? = some f → ∀ j, j < K.sz → (K.encs l)[i * K.sz + j]? = (K.enc f)[j]?
  | [], i, f, h, j, hj => by simp at h
  | q :: l, 0, f, h, j, hj => by
    simp at h
    subst h
    rw [Kd.encs, Nat.zero_mul, Nat.zero_add, List.getElem?_append_left (by rw [K.len]; exact hj)]
  | q :: l, i + 1, f, h, j, hj => by
    simp only [List.getElem?_cons_succ] at h
    have := encs_get l i f h j hj
    rw [Kd.encs, List.getElem?_append_right (by rw [K.len, Nat.add_mul]; omega), K.len, show (i + 1) * K.sz + j - K.sz = i * K.sz + j by rw [Nat.add_mul]; omega]
    exact this
/-- A frame of the list becomes another one. -/
theorem encs_set : ∀ (l : List Fr) (i : Nat) (f f' : Fr) (j : Nat) (u : Value), l[i]? = some f → j < K.sz → (K.enc f).set j u = K.enc f' → (K.encs l).set (i * K.sz + j) u = K.encs (l.set i f')
  | [], i, f, f', j, u, h, hj, he => by simp at h
  | q :: l, 0, f, f', j, u, h, hj, he => by
    simp at h
    subst h
    rw [Kd.encs, Nat.zero_mul, Nat.zero_add, List.set_append_left _ _ (by rw [K.len]; exact hj), he]
    rfl
  | q :: l, i + 1, f, f', j, u, h, hj, he => by
    simp only [List.getElem?_cons_succ] at h
    have := encs_set l i f f' j u h hj he
    rw [Kd.encs, List.set_append_right _ _ (by rw [K.len, Nat.add_mul]; omega), K.len, show (i + 1) * K.sz + j - K.sz = i * K.sz + j by rw [Nat.add_mul]; omega, this]
    rfl
theorem q_set {w : World} {base g o n cap size : Nat} {e : TypeId} {xs : List Value} (h : QRow w base e size (.slice (some ⟨g, o, none⟩) n cap) n xs) {j : Nat} (hj : j < n * size) (u : Value) :
    QRow (w.setCell ⟨g, o + j, none⟩ u) base e size (.slice (some ⟨g, o, none⟩) n cap) n (xs.set j u) := by
  obtain ⟨h1, h2⟩ := h
  refine ⟨by rw [List.length_set]; exact h1, ?_⟩
  rcases h2 with ⟨h0, _⟩ | ⟨g', off, cap', cur, he, hg, hh, hnc, hm, hcs, ht⟩
  · subst h0; omega
  · injection he with ha _ hc
    injection ha with ha
    injection ha with e1 e2
    subst e1; subst e2; subst hc
    refine .inr ⟨g, off, cap, cur.setIfInBounds (off * size + j) u, rfl, hg, Blk.set (g := g) hh _ _, hnc, hm, by rw [Array.size_setIfInBounds]; exact hcs, ?_⟩
    rw [Array.toList_setIfInBounds, List.drop_set, if_neg (by omega), show off * size + j - off * size = j by omega, List.take_set, ht]
def FS.cells (s : FS) (v : Value) : Array Value := #[v, .int .i64 s.skew, .int .i64 s.now, .int .i64 s.thr, .int .i64 s.twi, .int .i64 s.old]
def Held (K : Kd) (w : World) (g : Nat) (s : FS) : Prop := ∃ v, Blk w g K.T (s.cells v) ∧ QRow w 0 K.E K.sz v s.l.length (K.encs s.l)
theorem mine_of {w : World} {g k : Nat} {v : Value} {T : TypeId} {s : FS} (hb : Blk w g T (s.cells v)) : Mine w g k ↔ (k = g ∨ v.ownBlock = some k) := by
  have hc : w.cell? ⟨g, 0, none⟩ = some v := hb.cell 0
  unfold Mine
  rw [hc]
  constructor
  · rintro (h | ⟨u, hu, hv⟩)
    · exact .inl h
    · injection hu with hu
      subst hu
      exact .inr hv
  · rintro (h | h)
    · exact .inl h
    · exact .inr ⟨v, rfl, h⟩
theorem Held.owns {w : World} {g : Nat} {s : FS} (H : Held K w g s) : Owns w g := by
  obtain ⟨v, hb, hq⟩ := H
  intro k hk
  rcases (mine_of hb).1 hk with rfl | hv
  · exact hb.lt
  · exact q_lt hq k hv
theorem Held.lt {w : World} {g : Nat} {s : FS} (H : Held K w g s) : g < w.heap.size := H.owns g (.inl rfl)
theorem Held.keep {w w1 : World} {g : Nat} {s : FS} (H : Held K w g s) (hm : ∀ k, k < w.heap.size → Mine w g k → w1.heap[k]? = w.heap[k]?) : Held K w1 g s := by
  obtain ⟨v, hb, hq⟩ := H
  exact ⟨v, (hm g hb.lt (.inl rfl)).trans hb, q_move hq fun k hk => hm k (q_lt hq k hk) ((mine_of hb).2 (.inr hk))⟩
def PutPost (K : Kd) (w : World) (g : Nat) (s' : FS) (w' : World) : Prop := Held K w' g s' ∧ Turns w w' g
theorem Held.ne {w : World} {g : Nat} {v : Value} {cs : Array Value} {n : Nat} {xs : List Value} (hb : Blk w g K.T cs) (hq : QRow w 0 K.E K.sz v n xs) : v.ownBlock ≠ some g := by
  intro he
  obtain ⟨_, cells, hc⟩ := q_typed hq g he
  unfold Blk at hb
  rw [hb] at hc
  injection hc with hc
  injection hc with _ ht
  exact absurd ht K.ne
theorem Held.refl {w : World} {g : Nat} {s : FS} (H : Held K w g s) : PutPost K w g s w := ⟨H, Turns.refl _ _⟩
theorem PutPost.trans {a b c : World} {g : Nat} {s s' : FS} (h : PutPost K a g s b) (k : PutPost K b g s' c) : PutPost K a g s' c := ⟨k.1, h.2.trans k.2⟩
theorem Held.below {w w' : World} {g : Nat} {s : FS} (H : Held K w g s) (hb : Below w.heap.size w w') : PutPost K w g s w' :=
  ⟨H.keep fun k hk _ => hb.block k hk, Upon.of_below hb, fun k hk => .inl ((mine_same (hb.block g H.lt) k).1 hk)⟩
/-- The list has become another one, and is stored. -/
theorem put {w w1 w2 : World} {g : Nat} {v v' : Value} {s s' : FS} (hb : Blk w g K.T (s.cells v)) (hq0 : QRow w 0 K.E K.sz v s.l.length (K.encs s.l))
    (hq : QRow w1 0 K.E K.sz v' s'.l.length (K.encs s'.l)) (hg : w.grownBy w1 v.ownBlock) (hat : ∀ b, v'.ownBlock = some b → v.ownBlock = some b ∨ w.heap.size ≤ b)
    (hb2 : Blk w2 g K.T (s'.cells v')) (hu : Upon (· = g) w1 w2) : PutPost K w g s' w2 := by
  have hb1 : Blk w1 g K.T _ := blk_grown hg hb (Held.ne hb hq0)
  refine ⟨⟨_, hb2, q_move hq fun k hk => hu.block k (q_lt hq k hk) (fun he => by subst he; exact Held.ne hb1 hq hk)⟩, ?_, ?_⟩
  · exact (Upon.of_grown (S := Mine w g) hg fun k hk => (mine_of hb).2 (.inr hk)).trans' hu fun i hi => .inl (by subst hi; exact .inl rfl)
  · intro k hk
    rcases (mine_of hb2).1 hk with h1 | hv
    · exact .inl (.inl h1)
    · rcases hat k hv with h1 | h1
      · exact .inl ((mine_of hb).2 (.inr h1))
      · exact .inr h1
/-- The same list, the counts turned. -/
theorem put_same {w w2 : World} {g : Nat} {v : Value} {s s' : FS} (hb : Blk w g K.T (s.cells v)) (hq0 : QRow w 0 K.E K.sz v s.l.length (K.encs s.l)) (hl : s'.l = s.l)
    (hb2 : Blk w2 g K.T (s'.cells v)) (hu : Upon (· = g) w w2) : PutPost K w g s' w2 :=
  put hb hq0 (w1 := w) (by rw [hl]; exact hq0) ⟨rfl, rfl, rfl, Nat.le_refl _, fun _ _ _ => rfl⟩ (fun b h => .inl h) hb2 hu
theorem Held.cells {w : World} {g : Nat} {s : FS} (H : Held K w g s) : ∃ v, w.cell? ⟨g, 0, none⟩ = some v ∧ w.cell? ⟨g, 1, none⟩ = some (.int .i64 s.skew) ∧ w.cell? ⟨g, 2, none⟩ = some (.int .i64 s.now) ∧ w.cell? ⟨g, 3, none⟩ = some (.int .i64 s.thr) ∧ w.cell? ⟨g, 4, none⟩ = some (.int .i64 s.twi) ∧ w.cell? ⟨g, 5, none⟩ = some (.int .i64 s.old) := by
  obtain ⟨v, hb, hq⟩ := H
  exact ⟨v, hb.cell 0, hb.cell 1, hb.cell 2, hb.cell 3, hb.cell 4, hb.cell 5⟩
theorem Held.c1 {w : World} {g : Nat} {s : FS} (H : Held K w g s) : w.cell? ⟨g, 1, none⟩ = some (.int .i64 s.skew) := by obtain ⟨v, h⟩ := H.cells; exact h.2.1
theorem Held.c2 {w : World} {g : Nat} {s : FS} (H : Held K w g s) : w.cell? ⟨g, 2, none⟩ = some (.int .i64 s.now) := by obtain ⟨v, h⟩ := H.cells; exact h.2.2.1
theorem Held.c3 {w : World} {g : Nat} {s : FS} (H : Held K w g s) : w.cell? ⟨g, 3, none⟩ = some (.int .i64 s.thr) := by obtain ⟨v, h⟩ := H.cells; exact h.2.2.2.1
theorem Held.c4 {w : World} {g : Nat} {s : FS} (H : Held K w g s) : w.cell? ⟨g, 4, none⟩ = some (.int .i64 s.twi) := by obtain ⟨v, h⟩ := H.cells; exact h.2.2.2.2.1
theorem Held.c5 {w : World} {g : Nat} {s : FS} (H : Held K w g s) : w.cell? ⟨g, 5, none⟩ = some (.int .i64 s.old) := by obtain ⟨v, h⟩ := H.cells; exact h.2.2.2.2.2
theorem Held.slice {w : World} {g : Nat} {s : FS} (H : Held K w g s) : ∃ A c, w.cell? ⟨g, 0, none⟩ = some (.slice A s.l.length c) ∧ s.l.length ≤ c := by
  obtain ⟨v, hb, hq⟩ := H
  obtain ⟨A, c, rfl, hc⟩ := q_slice hq
  exact ⟨A, c, hb.cell 0, hc⟩
theorem q_form {w : World} {v : Value} {n : Nat} {xs : List Value} {e : TypeId} {sz : Nat} (h : QRow w 0 e sz v n xs) (hn : 0 < n) : ∃ b off c, v = .slice (some ⟨b, off, none⟩) n c ∧ n ≤ c ∧ ∀ j u, xs[j]? = some u → w.cell? ⟨b, off + j, none⟩ = some u := by
  rcases h.2 with ⟨h0, _⟩ | ⟨g, off, cap, cur, he, hg, hh, hnc, hm, hcs, ht⟩
  · omega
  · refine ⟨g, off * sz, cap, he, hnc, fun j u hu => ?_⟩
    obtain ⟨ad, ha, hc⟩ := q_cells (by rw [he] at h; exact h) hn
    injection ha with ha
    subst ha
    have := hc j u hu
    rw [add_at] at this
    exact this
/-- A frame of the list, where it lies. -/
theorem Held.reads {w : World} {g : Nat} {s : FS} (H : Held K w g s) (hn : 0 < s.l.length) : ∃ b off c, w.cell? ⟨g, 0, none⟩ = some (.slice (some ⟨b, off, none⟩) s.l.length c) ∧ s.l.length ≤ c ∧ ∀ i f, s.l[i]? = some f → ∀ j u, j < K.sz → (K.enc f)[j]? = some u → w.cell? ⟨b, off + i * K.sz + j, none⟩ = some u := by
  obtain ⟨v, hb, hq⟩ := H
  obtain ⟨b, off, c, rfl, hc, hr⟩ := q_form hq hn
  refine ⟨b, off, c, hb.cell 0, hc, fun i f hf j u hj hu => ?_⟩
  rw [Nat.add_assoc]
  exact hr _ u (by rw [encs_get _ _ _ hf j hj]; exact hu)
/-- What is cut off ahead. -/
theorem Held.cut {w : World} {g : Nat} {s : FS} (H : Held K w g s) {k : Nat} (hk : k ≤ s.l.length) {A : Option Addr} {n c : Nat} (h0 : w.cell? ⟨g, 0, none⟩ = some (.slice A n c)) :
    ∃ A', (∀ W : World, (Instr.slice K.S (.slice A n c) (some (.int .i64 k)) none none).run Try.prog W = .ok (.slice A' (s.l.length - k) (c - k)) W) ∧ n = s.l.length ∧
      PutPost K w g { s with l := s.l.drop k } (w.setCell ⟨g, 0, none⟩ (.slice A' (s.l.length - k) (c - k))) := by
  obtain ⟨v, hb, hq⟩ := H
  obtain ⟨i, hi, hz⟩ := Option.map_eq_some_iff.1 K.info
  simp only [Prod.mk.injEq] at hz
  have hv : v = .slice A n c := by
    have := hb.cell 0
    rw [h0] at this
    simpa [FS.cells] using this.symm
  subst hv
  obtain ⟨A1, c1, he, hnc⟩ := q_slice hq
  injection he with _ e2 e3
  subst e2
  have hcut := cut_from (P := Try.prog) K.S K.E .i64 K.under hi K.sz hz.2.1 A s.l.length c (k : Int) (by omega) (by omega)
  rw [Int.toNat_natCast] at hcut
  refine ⟨_, hcut, rfl, ?_⟩
  have hqd := q_drop hq hk
  rw [← encs_drop] at hqd
  have hbs := hb.set 0 (.slice (if c = k then A else A.map (·.add (k * K.sz))) (s.l.length - k) (c - k))
  have hlen : (s.l.drop k).length = s.l.length - k := List.length_drop
  refine put hb hq (w1 := w) (s' := { s with l := s.l.drop k }) (by rw [hlen]; exact hqd) ⟨rfl, rfl, rfl, Nat.le_refl _, fun _ _ _ => rfl⟩ (fun b hb' => .inl ?_) hbs ((Upon.refl (· = g) w).setg (g := g) rfl _ _)
  rw [← hb']
  split
  · cases A <;> rfl
  · cases A with
    | none => rfl
    | some a => simp only [Option.map_some, Value.ownBlock, Addr.add]; split <;> rfl
end Go.Proofs.Ytdhgallfplbhpaa
