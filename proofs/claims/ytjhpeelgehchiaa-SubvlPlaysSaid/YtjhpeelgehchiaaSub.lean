/- What each function of package subvl answers and leaves. Conditions: the queues lie in a block of their own, their texts in rows apart from each other. -/
import Derived.Test.YtjhpeelgehchiaaBase
namespace Go.Proofs.Ytjhpeelgehchiaa
open Go.RowKit Go.Proofs.YtjhpeelgehchiaaW.PrintWords
set_option linter.unusedVariables false

def strs (l : List ByteArray) : List Value := l.map Value.string
theorem strs_append (l m : List ByteArray) : strs (l ++ m) = strs l ++ strs m := by simp [strs]
theorem strs_length (l : List ByteArray) : (strs l).length = l.length := by simp [strs]
theorem strs_drop (l : List ByteArray) (k : Nat) : strs (l.drop k) = (strs l).drop k := by simp [strs]

/-- What queues hold. -/
structure St where
  L : Nat → List ByteArray
  many : Nat
  depth : Nat
  turn : Nat
def St.all (s : St) : Nat := (s.L 0).length + (s.L 1).length + (s.L 2).length + (s.L 3).length
structure St.ok (s : St) : Prop where
  m0 : 1 ≤ s.many
  m1 : s.many ≤ 4
  d0 : 1 ≤ s.depth
  d1 : s.depth ≤ 1024
  t : s.turn < s.many
  len : ∀ k, (s.L k).length ≤ s.depth
  none : ∀ k, s.many ≤ k → s.L k = []
theorem St.ok.all_le {s : St} (h : s.ok) : s.all ≤ 4096 := by
  have := h.len 0
  have := h.len 1
  have := h.len 2
  have := h.len 3
  have := h.d1
  unfold St.all
  omega

def upd {α : Type} (f : Nat → α) (i : Nat) (x : α) : Nat → α := fun k => if k = i then x else f k
theorem upd_same {α : Type} (f : Nat → α) (i : Nat) (x : α) : upd f i x i = x := if_pos rfl
theorem upd_ne {α : Type} (f : Nat → α) {i k : Nat} (x : α) (h : k ≠ i) : upd f i x k = f k := if_neg h

def cellsOf (vs : Nat → Value) (m d t a : Nat) : Array Value := #[vs 0, vs 1, vs 2, vs 3, .int .i64 m, .int .i64 d, .int .i64 t, .int .i64 a]
theorem four {j : Nat} (h : j < 4) : j = 0 ∨ j = 1 ∨ j = 2 ∨ j = 3 := by omega
theorem cellsOf_get (vs : Nat → Value) (m d t a : Nat) {j : Nat} (h : j < 4) : (cellsOf vs m d t a)[j]? = some (vs j) := by
  rcases four h with rfl | rfl | rfl | rfl <;> rfl
theorem cellsOf_set (vs : Nat → Value) (m d t a : Nat) {j : Nat} (h : j < 4) (u : Value) : (cellsOf vs m d t a).setIfInBounds j u = cellsOf (upd vs j u) m d t a := by
  rcases four h with rfl | rfl | rfl | rfl <;> rfl
theorem cellsOf_turn (vs : Nat → Value) (m d t a t' : Nat) : (cellsOf vs m d t a).setIfInBounds 6 (.int .i64 t') = cellsOf vs m d t' a := rfl
theorem cellsOf_all (vs : Nat → Value) (m d t a a' : Nat) : (cellsOf vs m d t a).setIfInBounds 7 (.int .i64 a') = cellsOf vs m d t a' := rfl

/-- The queues in a world: a block, and the rows of its slices. -/
structure Lies (w : World) (vs : Nat → Value) (L : Nat → List ByteArray) : Prop where
  q : ∀ k, k < 4 → QRow w 0 9 1 (vs k) (L k).length (strs (L k))
  apart : ∀ j k, j < 4 → k < 4 → j ≠ k → ∀ b, (vs j).ownBlock = some b → (vs k).ownBlock ≠ some b
def Held (w : World) (g : Nat) (s : St) : Prop := ∃ vs, Blk w g 53 (cellsOf vs s.many s.depth s.turn s.all) ∧ Lies w vs s.L
/-- The blocks that are the queues' own. -/
def Mine (w : World) (g k : Nat) : Prop := k = g ∨ ∃ i v, i < 4 ∧ w.cell? ⟨g, i, none⟩ = some v ∧ v.ownBlock = some k
theorem Held.lt {w : World} {g : Nat} {s : St} (h : Held w g s) : g < w.heap.size := by
  obtain ⟨vs, hb, _⟩ := h
  exact hb.lt
theorem mine_of {w : World} {g : Nat} {vs : Nat → Value} {m d t a k : Nat} (hb : Blk w g 53 (cellsOf vs m d t a)) : Mine w g k ↔ (k = g ∨ ∃ i, i < 4 ∧ (vs i).ownBlock = some k) := by
  constructor
  · rintro (h | ⟨i, v, hi, hc, hv⟩)
    · exact .inl h
    · rw [hb.cell i, cellsOf_get _ _ _ _ _ hi] at hc
      injection hc with hc
      exact .inr ⟨i, hi, by rw [hc]; exact hv⟩
  · rintro (h | ⟨i, hi, hv⟩)
    · exact .inl h
    · exact .inr ⟨i, vs i, hi, by rw [hb.cell i, cellsOf_get _ _ _ _ _ hi], hv⟩
theorem Lies.typed {w : World} {vs : Nat → Value} {L : Nat → List ByteArray} (h : Lies w vs L) {k b : Nat} (hk : k < 4) (hb : (vs k).ownBlock = some b) : ∃ cells, w.heap[b]? = some (.cells cells 9 (0, 0)) := (q_typed (h.q k hk) b hb).2
theorem Lies.move {w w1 : World} {vs : Nat → Value} {L : Nat → List ByteArray} (h : Lies w vs L) (hm : ∀ k b, k < 4 → (vs k).ownBlock = some b → w1.heap[b]? = w.heap[b]?) : Lies w1 vs L :=
  ⟨fun k hk => q_move (h.q k hk) (fun b hb => hm k b hk hb), h.apart⟩
theorem Lies.ne {w : World} {vs : Nat → Value} {L : Nat → List ByteArray} (h : Lies w vs L) {g : Nat} {cs : Array Value} (hb : Blk w g 53 cs) {k : Nat} (hk : k < 4) : (vs k).ownBlock ≠ some g := by
  intro he
  obtain ⟨cells, hc⟩ := h.typed hk he
  unfold Blk at hb
  rw [hb] at hc
  injection hc with hc
  injection hc with _ ht
  exact absurd ht (by decide)
/-- What a call on queues leaves. -/
structure Turns (w w' : World) (g : Nat) : Prop where
  upon : Upon (Mine w g) w w'
  mine : ∀ k, Mine w' g k → Mine w g k ∨ w.heap.size ≤ k
theorem Turns.refl (w : World) (g : Nat) : Turns w w g := ⟨Upon.refl _ _, fun _ h => .inl h⟩
theorem Turns.trans {a b c : World} {g : Nat} (h : Turns a b g) (k : Turns b c g) : Turns a c g :=
  ⟨h.upon.trans' k.upon h.mine, fun i hi => by
    rcases k.mine i hi with h1 | h1
    · exact h.mine i h1
    · exact .inr (Nat.le_trans h.upon.size h1)⟩
theorem Held.keep {w w1 : World} {g : Nat} {s : St} (h : Held w g s) (hm : ∀ k, k < w.heap.size → Mine w g k → w1.heap[k]? = w.heap[k]?) : Held w1 g s := by
  obtain ⟨vs, hb, hr⟩ := h
  refine ⟨vs, (hm g hb.lt (.inl rfl)).trans hb, hr.move fun k b hk hv => hm b ?_ ((mine_of hb).2 (.inr ⟨k, hk, hv⟩))⟩
  obtain ⟨cells, hc⟩ := hr.typed hk hv
  exact (Array.getElem?_eq_some_iff.1 hc).1
theorem Mine.keep {w w1 : World} {g : Nat} {s : St} (h : Held w g s) (hm : w1.heap[g]? = w.heap[g]?) (k : Nat) : Mine w1 g k ↔ Mine w g k := by
  obtain ⟨vs, hb, hr⟩ := h
  rw [mine_of hb, mine_of (w := w1) (hm.trans hb)]

/-! ### numbers -/
theorem wrap_nat (n : Nat) (h : n < 9000000000000000000) : IntKind.i64.wrap (n : Int) = n := IntWalk.i64_in _ (by omega)

/-! ### New -/
def newB (m d : Int) : Bool := decide (1 ≤ m ∧ m ≤ 4 ∧ 1 ≤ d ∧ d ≤ 1024)
def St.fresh (m d : Nat) : St := ⟨fun _ => [], m, d, 0⟩
theorem St.fresh_ok {m d : Nat} (h : 1 ≤ m ∧ m ≤ 4 ∧ 1 ≤ d ∧ d ≤ 1024) : (St.fresh m d).ok := ⟨h.1, h.2.1, h.2.2.1, h.2.2.2, h.1, fun _ => Nat.zero_le _, fun _ _ => rfl⟩
theorem fresh_held {w : World} {g m d : Nat} (h : Blk w g 53 #[.slice none 0 0, .slice none 0 0, .slice none 0 0, .slice none 0 0, .int .i64 m, .int .i64 d, .int .i64 0, .int .i64 0]) : Held w g (St.fresh m d) ∧ ∀ k, Mine w g k → k = g := by
  have hb : Blk w g 53 (cellsOf (fun _ => .slice none 0 0) m d 0 0) := h
  refine ⟨⟨fun _ => .slice none 0 0, hb, ⟨fun k _ => q_of_own (own_nil w 0 9 1), fun j k _ _ _ b hb => by simp [Value.ownBlock] at hb⟩⟩, fun k hk => ?_⟩
  rcases (mine_of hb).1 hk with h | ⟨i, _, hi⟩
  · exact h
  · simp [Value.ownBlock] at hi
set_option maxHeartbeats 1000000 in
theorem new_calls_ok (m d : Nat) (w : World) (h : 1 ≤ m ∧ m ≤ 4 ∧ 1 ≤ d ∧ d ≤ 1024) :
    Calls Try.prog 9 #[.int .i64 m, .int .i64 d] w fun e w' => e = .returned (.tuple #[.pointer (some ⟨w.heap.size, 0, none⟩), .int .i64 0]) ∧ Held w' w.heap.size (St.fresh m d) ∧ (∀ k, Mine w' w.heap.size k → k = w.heap.size) ∧ Below w.heap.size w w' := by
  have h1 : ¬ ((m : Int) < 1) := by omega
  have h2 : ¬ ((4 : Int) < m) := by omega
  have h3 : ¬ ((d : Int) < 1) := by omega
  have h4 : ¬ ((1024 : Int) < d) := by omega
  clear h
  go_enter Try.func9, Try.ntmps9
  go_wp2
  go_ret2
  have hn := fresh_held (m := m) (d := d) (Blk.new w 53 #[.slice none 0 0, .slice none 0 0, .slice none 0 0, .slice none 0 0, .int .i64 m, .int .i64 d, .int .i64 0, .int .i64 0])
  exact ⟨rfl, hn.1, hn.2, (Below.refl _ _).alloc (Nat.le_refl _) _⟩
set_option maxHeartbeats 1000000 in
theorem new_calls_no (m d : Int) (w : World) (h : ¬ (1 ≤ m ∧ m ≤ 4 ∧ 1 ≤ d ∧ d ≤ 1024)) :
    Calls Try.prog 9 #[.int .i64 m, .int .i64 d] w fun e w' => e = .returned (.tuple #[.pointer none, .int .i64 1]) ∧ w = w' := by
  have key : (m < 1) ∨ (¬ m < 1 ∧ 4 < m) ∨ (¬ m < 1 ∧ ¬ 4 < m ∧ d < 1) ∨ (¬ m < 1 ∧ ¬ 4 < m ∧ ¬ d < 1 ∧ 1024 < d) := by omega
  clear h
  rcases key with h | ⟨h1, h⟩ | ⟨h1, h2, h⟩ | ⟨h1, h2, h3, h⟩
  all_goals
    go_enter Try.func9, Try.ntmps9
    go_wp2
    go_ret2
    exact ⟨rfl, rfl⟩

/-! ### All, Len -/
theorem all_nil (w : World) : Calls Try.prog 15 #[.pointer none] w fun e w' => e = .returned (.int .i64 0) ∧ w = w' := by
  go_enter Try.func15, Try.ntmps15
  go_wp2
  go_ret
  exact ⟨rfl, rfl⟩
set_option maxHeartbeats 1000000 in
theorem all_calls (g : Nat) (s : St) (w : World) (hh : Held w g s) : Calls Try.prog 15 #[.pointer (some ⟨g, 0, none⟩)] w fun e w' => e = .returned (.int .i64 s.all) ∧ w = w' := by
  obtain ⟨vs, hb, hr⟩ := hh
  have c7 : w.cell? ⟨g, 7, none⟩ = some (.int .i64 s.all) := hb.cell 7
  clear hb hr
  go_enter Try.func15, Try.ntmps15
  go_wp2
  go_ret
  exact ⟨rfl, rfl⟩
theorem len_nil (i : Int) (w : World) : Calls Try.prog 14 #[.pointer none, .int .i64 i] w fun e w' => e = .returned (.int .i64 0) ∧ w = w' := by
  go_enter Try.func14, Try.ntmps14
  go_wp2
  go_ret
  exact ⟨rfl, rfl⟩
def St.lenI (s : St) (i : Int) : Nat := if 0 ≤ i ∧ i < s.many then (s.L i.toNat).length else 0
set_option maxHeartbeats 1000000 in
theorem len_calls (g : Nat) (s : St) (i : Int) (w : World) (hh : Held w g s) (hk : s.ok) : Calls Try.prog 14 #[.pointer (some ⟨g, 0, none⟩), .int .i64 i] w fun e w' => e = .returned (.int .i64 (s.lenI i)) ∧ w = w' := by
  obtain ⟨vs, hb, hr⟩ := hh
  have c4 : w.cell? ⟨g, 4, none⟩ = some (.int .i64 s.many) := hb.cell 4
  by_cases h0 : i < 0
  · have HL : Aside (s.lenI i = 0) := ⟨by unfold St.lenI; rw [if_neg (by omega)]⟩
    clear hb hr hk
    go_enter Try.func14, Try.ntmps14
    go_wp2
    go_ret
    rw [HL.out]
    exact ⟨rfl, rfl⟩
  by_cases h1 : (s.many : Int) ≤ i
  · have HL : Aside (s.lenI i = 0) := ⟨by unfold St.lenI; rw [if_neg (by omega)]⟩
    clear hb hr hk
    go_enter Try.func14, Try.ntmps14
    go_wp2
    go_ret
    rw [HL.out]
    exact ⟨rfl, rfl⟩
  obtain ⟨j, rfl⟩ : ∃ j : Nat, i = j := ⟨i.toNat, by omega⟩
  have hj : j < 4 := by have := hk.m1; omega
  have HL : Aside (s.lenI j = (s.L j).length) := ⟨by unfold St.lenI; rw [if_pos (by omega)]; simp⟩
  obtain ⟨A, c, hv, hc⟩ := q_slice (hr.q j hj)
  have cj : w.cell? ⟨g, j, none⟩ = some (.slice A (s.L j).length c) := by rw [hb.cell j, cellsOf_get _ _ _ _ _ hj, hv]
  have hj' : (j : Int) < 4 := by omega
  have hj0 : (0 : Int) ≤ j := by omega
  clear hb hr hk hv hc
  go_enter Try.func14, Try.ntmps14
  go_wp2
  go_ret
  rw [HL.out]
  exact ⟨rfl, rfl⟩
end Go.Proofs.Ytjhpeelgehchiaa
