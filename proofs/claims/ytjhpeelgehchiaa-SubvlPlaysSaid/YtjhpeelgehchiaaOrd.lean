/- Queues and two arrays that a statement has made, side by side. Conditions: none. -/
import Derived.Test.YtjhpeelgehchiaaArr
namespace Go.Proofs.Ytjhpeelgehchiaa
open Go.RowKit Go.Proofs.YtjhpeelgehchiaaW.PrintWords
set_option linter.unusedVariables false

def Alive (w : World) (h : Nat) : Prop := (∃ L, HeldA w h L) ∨ ∃ s, Held w h s
theorem Alive.lt {w : World} {h k : Nat} (a : Alive w h) (hk : Mine w h k) : k < w.heap.size := by
  rcases a with ⟨L, a⟩ | ⟨s, a⟩
  · exact a.mine_lt hk
  · exact a.mine_lt hk
theorem Alive.same {w w1 : World} {h : Nat} (a : Alive w h) (hm : w1.heap[h]? = w.heap[h]?) (k : Nat) : Mine w1 h k ↔ Mine w h k := by
  rcases a with ⟨L, a⟩ | ⟨s, a⟩
  · exact Mine.keepA a hm k
  · exact Mine.keep a hm k
theorem still {w w1 : World} {g h : Nat} (t : Turns w w1 g) (a : Alive w h) (ap : Apart w g h) : ∀ k, k < w.heap.size → Mine w h k → w1.heap[k]? = w.heap[k]? :=
  fun k hk hm => t.upon.block k hk fun hg => ap k hg hm
theorem apart_turn {w w1 : World} {g h : Nat} (t : Turns w w1 g) (a : Alive w h) (ap : Apart w g h) : Apart w1 g h := by
  intro k hg hh
  have hself : w1.heap[h]? = w.heap[h]? := still t a ap h (a.lt (.inl rfl)) (.inl rfl)
  have hh' := (a.same hself k).1 hh
  rcases t.mine k hg with h1 | h1
  · exact ap k h1 hh'
  · have := a.lt hh'
    omega
theorem apart_still {w w1 : World} {h j : Nat} (a : Alive w h) (b : Alive w j) (ha : w1.heap[h]? = w.heap[h]?) (hb : w1.heap[j]? = w.heap[j]?) (ap : Apart w h j) : Apart w1 h j :=
  fun k h1 h2 => ap k ((a.same ha k).1 h1) ((b.same hb k).1 h2)

structure Three (w0 W : World) (g h1 h2 : Nat) (s : St) (A B : Nat → List ByteArray) : Prop where
  q : In w0 W g s
  a : HeldA W h1 A
  b : HeldA W h2 B
  ga : Apart W g h1
  gb : Apart W g h2
  ab : Apart W h1 h2
  ma : ∀ k, Mine W h1 k → w0.heap.size ≤ k
  mb : ∀ k, Mine W h2 k → w0.heap.size ≤ k
theorem In.turn {w0 W W' : World} {g h : Nat} {s : St} (hi : In w0 W g s) (t : Turns W W' h) (ap : Apart W h g) (hm : ∀ k, Mine W h k → w0.heap.size ≤ k) : In w0 W' g s := by
  have hs := still t (.inr ⟨s, hi.held⟩) ap
  have hg : W'.heap[g]? = W.heap[g]? := hs g hi.held.lt (.inl rfl)
  exact ⟨hi.held.keep hs, hi.below.trans (t.upon.below hi.below.size hm), fun k hk => hi.mine k ((Mine.keep hi.held hg k).1 hk), hi.ok⟩
theorem mine_up {w0 W W' : World} {h : Nat} (hs : w0.heap.size ≤ W.heap.size) (t : Turns W W' h) (hm : ∀ k, Mine W h k → w0.heap.size ≤ k) : ∀ k, Mine W' h k → w0.heap.size ≤ k := by
  intro k hk
  rcases t.mine k hk with h1 | h1
  · exact hm k h1
  · omega
theorem Three.queue {w0 W W' : World} {g h1 h2 : Nat} {s s' : St} {A B : Nat → List ByteArray} (h : Three w0 W g h1 h2 s A B) (hp : PutPost W g s' W') (hk : s'.ok) : Three w0 W' g h1 h2 s' A B := by
  have aa : Alive W h1 := .inl ⟨_, h.a⟩
  have ab : Alive W h2 := .inl ⟨_, h.b⟩
  have s1 := still hp.2 aa h.ga
  have s2 := still hp.2 ab h.gb
  have e1 := s1 h1 h.a.lt (.inl rfl)
  have e2 := s2 h2 h.b.lt (.inl rfl)
  exact ⟨h.q.step hp hk, h.a.keep s1, h.b.keep s2, apart_turn hp.2 aa h.ga, apart_turn hp.2 ab h.gb, apart_still aa ab e1 e2 h.ab, fun k hm => h.ma k ((aa.same e1 k).1 hm), fun k hm => h.mb k ((ab.same e2 k).1 hm)⟩
theorem Three.first {w0 W W' : World} {g h1 h2 : Nat} {s : St} {A A' B : Nat → List ByteArray} (h : Three w0 W g h1 h2 s A B) (hp : HeldA W' h1 A') (t : Turns W W' h1) : Three w0 W' g h1 h2 s A' B := by
  have aq : Alive W g := .inr ⟨_, h.q.held⟩
  have ab : Alive W h2 := .inl ⟨_, h.b⟩
  have s1 := still t aq h.ga.symm
  have s2 := still t ab h.ab
  have e1 := s1 g h.q.held.lt (.inl rfl)
  have e2 := s2 h2 h.b.lt (.inl rfl)
  exact ⟨h.q.turn t h.ga.symm h.ma, hp, h.b.keep s2, (apart_turn t aq h.ga.symm).symm, apart_still aq ab e1 e2 h.gb, apart_turn t ab h.ab, mine_up h.q.below.size t h.ma, fun k hm => h.mb k ((ab.same e2 k).1 hm)⟩
theorem Three.second {w0 W W' : World} {g h1 h2 : Nat} {s : St} {A B B' : Nat → List ByteArray} (h : Three w0 W g h1 h2 s A B) (hp : HeldA W' h2 B') (t : Turns W W' h2) : Three w0 W' g h1 h2 s A B' := by
  have aq : Alive W g := .inr ⟨_, h.q.held⟩
  have aa : Alive W h1 := .inl ⟨_, h.a⟩
  have s1 := still t aq h.gb.symm
  have s2 := still t aa h.ab.symm
  have e1 := s1 g h.q.held.lt (.inl rfl)
  have e2 := s2 h1 h.a.lt (.inl rfl)
  exact ⟨h.q.turn t h.gb.symm h.mb, h.a.keep s2, hp, apart_still aq aa e1 e2 h.ga, (apart_turn t aq h.gb.symm).symm, (apart_turn t aa h.ab.symm).symm, fun k hm => h.ma k ((aa.same e2 k).1 hm), mine_up h.q.below.size t h.mb⟩
theorem Three.next {w0 W W' : World} {g h1 h2 : Nat} {s : St} {A B : Nat → List ByteArray} (h : Three w0 W g h1 h2 s A B) (hb : Below W.heap.size W W') : Three w0 W' g h1 h2 s A B := by
  have aq : Alive W g := .inr ⟨_, h.q.held⟩
  have aa : Alive W h1 := .inl ⟨_, h.a⟩
  have ab : Alive W h2 := .inl ⟨_, h.b⟩
  have e0 := hb.block g h.q.held.lt
  have e1 := hb.block h1 h.a.lt
  have e2 := hb.block h2 h.b.lt
  exact ⟨h.q.next hb, h.a.keep fun k hk _ => hb.block k hk, h.b.keep fun k hk _ => hb.block k hk, apart_still aq aa e0 e1 h.ga, apart_still aq ab e0 e2 h.gb, apart_still aa ab e1 e2 h.ab, fun k hm => h.ma k ((aa.same e1 k).1 hm), fun k hm => h.mb k ((ab.same e2 k).1 hm)⟩
end Go.Proofs.Ytjhpeelgehchiaa
