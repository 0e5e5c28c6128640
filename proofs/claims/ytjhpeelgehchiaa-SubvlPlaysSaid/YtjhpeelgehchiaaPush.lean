/- Push: what it answers and leaves. Conditions: the queues lie; the texts read. -/
import Derived.Test.YtjhpeelgehchiaaAdd
namespace Go.Proofs.Ytjhpeelgehchiaa
open Go.RowKit Go.Proofs.YtjhpeelgehchiaaW.PrintWords
set_option linter.unusedVariables false

theorem far_cell {w w1 : World} {row : Option Nat} (hg : w.grownBy w1 row) {p : Addr} {v : Value} (hc : w.cell? p = some v) (hne : row ≠ some p.block) : w1.cell? p = some v :=
  (World.cell?_of_block (w := w) (hg.block p.block (World.block_lt_of_cell? w p hc) (fun h => hne h.symm))).trans hc
/-- A row of the queues has become another one. -/
theorem Lies.put {w w1 : World} {vs : Nat → Value} {L : Nat → List ByteArray} (h : Lies w vs L) {j : Nat} (hj : j < 4) {v' : Value} {xs : List ByteArray}
    (hq : QRow w1 0 9 1 v' xs.length (strs xs)) (hg : w.grownBy w1 (vs j).ownBlock) (hat : v'.ownBlock = (vs j).ownBlock ∨ ∃ b, v'.ownBlock = some b ∧ w.heap.size ≤ b) : Lies w1 (upd vs j v') (upd L j xs) := by
  constructor
  · intro k hk
    by_cases hkj : k = j
    · subst hkj
      rw [upd_same, upd_same]
      exact hq
    · rw [upd_ne _ _ hkj, upd_ne _ _ hkj]
      refine q_move (h.q k hk) fun b hb => hg.block b ?_ ?_
      · obtain ⟨cells, hc⟩ := h.typed hk hb
        exact (Array.getElem?_eq_some_iff.1 hc).1
      · intro he
        exact h.apart k j hk hj hkj b hb he.symm
  · intro k l hk hl hne b hb
    have new : ∀ k, k < 4 → k ≠ j → ∀ b, (vs k).ownBlock = some b → v'.ownBlock ≠ some b := by
      intro k hk hkj b hb
      rcases hat with hat | ⟨b', hb', hle⟩
      · rw [hat]
        exact h.apart k j hk hj hkj b hb
      · rw [hb']
        intro he
        injection he with he
        subst he
        obtain ⟨cells, hc⟩ := h.typed hk hb
        have := (Array.getElem?_eq_some_iff.1 hc).1
        omega
    by_cases hkj : k = j
    · subst hkj
      rw [upd_same] at hb
      rw [upd_ne _ _ (fun e => hne e.symm)]
      intro he
      exact new l hl (fun e => hne e.symm) b he hb
    · rw [upd_ne _ _ hkj] at hb
      by_cases hlj : l = j
      · subst hlj
        rw [upd_same]
        exact new k hk hkj b hb
      · rw [upd_ne _ _ hlj]
        exact h.apart k l hk hl hne b hb

def St.push (s : St) (j : Nat) (ys : List ByteArray) : St := { s with L := upd s.L j (s.L j ++ ys) }
theorem St.push_ok {s : St} {j : Nat} {ys : List ByteArray} (h : s.ok) (hj : j < s.many) (hy : (s.L j).length + ys.length ≤ s.depth) : (s.push j ys).ok := by
  refine ⟨h.m0, h.m1, h.d0, h.d1, h.t, fun k => ?_, fun k hk => ?_⟩
  · show (upd s.L j _ k).length ≤ s.depth
    by_cases hkj : k = j
    · subst hkj
      rw [upd_same, List.length_append]
      exact hy
    · rw [upd_ne _ _ hkj]
      exact h.len k
  · show upd s.L j _ k = []
    have : s.many ≤ k := hk
    rw [upd_ne _ _ (by omega)]
    exact h.none k hk
theorem St.push_all (s : St) {j : Nat} (hj : j < 4) (ys : List ByteArray) : (s.push j ys).all = s.all + ys.length := by
  unfold St.all St.push
  rcases four hj with rfl | rfl | rfl | rfl <;> simp [upd] <;> omega

theorem push_nil (i : Int) (a : Option Addr) (m c : Nat) (w : World) : Calls Try.prog 11 #[.pointer none, .int .i64 i, .slice a m c] w fun e w' => e = .returned (.int .i64 2) ∧ w = w' := by
  go_enter Try.func11, Try.ntmps11
  go_wp2
  go_ret
  exact ⟨rfl, rfl⟩
set_option maxHeartbeats 1000000 in
theorem push_arg (g : Nat) (s : St) (i : Int) (a : Option Addr) (m c : Nat) (w : World) (hh : Held w g s) (h : ¬ (0 ≤ i ∧ i < s.many)) : Calls Try.prog 11 #[.pointer (some ⟨g, 0, none⟩), .int .i64 i, .slice a m c] w fun e w' => e = .returned (.int .i64 1) ∧ w = w' := by
  obtain ⟨vs, hb, hr⟩ := hh
  have c4 : w.cell? ⟨g, 4, none⟩ = some (.int .i64 s.many) := hb.cell 4
  clear hb hr
  by_cases h0 : i < 0
  · clear h
    go_enter Try.func11, Try.ntmps11
    go_wp2
    go_ret
    exact ⟨rfl, rfl⟩
  have h1 : (s.many : Int) ≤ i := by omega
  clear h
  go_enter Try.func11, Try.ntmps11
  go_wp2
  go_ret
  exact ⟨rfl, rfl⟩
set_option maxHeartbeats 1000000 in
theorem push_full (g : Nat) (s : St) (j : Nat) (a : Option Addr) (m c : Nat) (w : World) (hh : Held w g s) (hk : s.ok) (hj : j < s.many) (hf : s.depth < (s.L j).length + m) (hm : m ≤ maxLen) : Calls Try.prog 11 #[.pointer (some ⟨g, 0, none⟩), .int .i64 j, .slice a m c] w fun e w' => e = .returned (.int .i64 22) ∧ Below w.heap.size w w' := by
  obtain ⟨vs, hb, hr⟩ := hh
  have hj4 : j < 4 := by have := hk.m1; omega
  obtain ⟨A, c', hv, hc⟩ := q_slice (hr.q j hj4)
  have cj : w.cell? ⟨g, j, none⟩ = some (.slice A (s.L j).length c') := by rw [hb.cell j, cellsOf_get _ _ _ _ _ hj4, hv]
  have c4 : w.cell? ⟨g, 4, none⟩ = some (.int .i64 s.many) := hb.cell 4
  have c5 : w.cell? ⟨g, 5, none⟩ = some (.int .i64 s.depth) := hb.cell 5
  have hj' : (j : Int) < 4 := by omega
  have hj0 : (0 : Int) ≤ j := by omega
  have hjn : ¬ (j : Int) < 0 := by omega
  have hjm : ¬ (s.many : Int) ≤ j := by omega
  have hl := hk.len j
  have hd := hk.d1
  have hw : IntKind.i64.wrap ((s.depth : Int) - ((s.L j).length : Int)) = (s.depth : Int) - ((s.L j).length : Int) := IntWalk.i64_in _ (by omega)
  have hfd : decide ((s.depth : Int) - ((s.L j).length : Int) < (m : Int)) = true := decide_eq_true (by omega)
  clear hb hr hk hv hc hl hd hf
  have HU : Aside (Below w.heap.size w w) := ⟨Below.refl _ _⟩
  go_enter Try.func11, Try.ntmps11
  go_wp2
  go_quiet (fail)
  go_wp2
  go_ret
  exact ⟨rfl, below_drewN HU.out _⟩
/-- What is left when a row has been put: told in one word. -/
def PutPost (w : World) (g : Nat) (s' : St) (w' : World) : Prop := Held w' g s' ∧ Turns w w' g
theorem blk_grown {w w1 : World} {row : Option Nat} (hg : w.grownBy w1 row) {g : Nat} {t : TypeId} {cs : Array Value} (hb : Blk w g t cs) (hne : row ≠ some g) : Blk w1 g t cs :=
  (hg.block g hb.lt (fun h => hne h.symm)).trans hb
theorem put_done {w w1 w2 : World} {g : Nat} {vs : Nat → Value} {L : Nat → List ByteArray} {m d t t' a a' : Nat} (hb : Blk w g 53 (cellsOf vs m d t a)) (hr : Lies w vs L) {j : Nat} (hj : j < 4) {v' : Value} {xs : List ByteArray}
    (hq : QRow w1 0 9 1 v' xs.length (strs xs)) (hg : w.grownBy w1 (vs j).ownBlock) (hat : v'.ownBlock = (vs j).ownBlock ∨ ∃ b, v'.ownBlock = some b ∧ w.heap.size ≤ b)
    (hb2 : Blk w2 g 53 (cellsOf (upd vs j v') m d t' a')) (hu : Upon (· = g) w1 w2) : Lies w2 (upd vs j v') (upd L j xs) ∧ Turns w w2 g := by
  have hl := hr.put hj hq hg hat
  have hne : ∀ k b, k < 4 → (upd vs j v' k).ownBlock = some b → b ≠ g ∧ b < w1.heap.size := by
    intro k b hk hbk
    obtain ⟨cells, hc⟩ := hl.typed hk hbk
    refine ⟨?_, (Array.getElem?_eq_some_iff.1 hc).1⟩
    rintro rfl
    have hb1 : Blk w1 b 53 (cellsOf vs m d t a) := blk_grown hg hb (hr.ne hb hj)
    exact hl.ne hb1 hk hbk
  refine ⟨hl.move fun k b hk hbk => hu.block b (hne k b hk hbk).2 (hne k b hk hbk).1, ?_, ?_⟩
  · refine (Upon.of_grown (S := Mine w g) hg fun k hk => (mine_of hb).2 (.inr ⟨j, hj, hk⟩)).trans' hu fun i hi => .inl (by subst hi; exact .inl rfl)
  · intro k hk
    rcases (mine_of hb2).1 hk with h | ⟨i, hi, hv⟩
    · exact .inl (.inl h)
    · by_cases hij : i = j
      · subst hij
        rw [upd_same] at hv
        rcases hat with hat | ⟨b, hb', hle⟩
        · exact .inl ((mine_of hb).2 (.inr ⟨i, hi, by rw [← hat]; exact hv⟩))
        · rw [hb'] at hv
          injection hv with hv
          subst hv
          exact .inr hle
      · rw [upd_ne _ _ hij] at hv
        exact .inl ((mine_of hb).2 (.inr ⟨i, hi, hv⟩))
theorem grown_drewN {w w1 : World} {row : Option Nat} {n : Nat} (h : (w.drewN n).grownBy w1 row) : w.grownBy w1 row := ⟨h.os, h.tape, h.output, h.size, h.block⟩
set_option maxHeartbeats 2000000 in
theorem push_fits (g : Nat) (s : St) (j : Nat) (a : Option Addr) (m c : Nat) (ys : List ByteArray) (w : World) (hh : Held w g s) (hk : s.ok) (hj : j < s.many) (hf : (s.L j).length + m ≤ s.depth) (hs : Src w a m ys) :
    Calls Try.prog 11 #[.pointer (some ⟨g, 0, none⟩), .int .i64 j, .slice a m c] w fun e w' => e = .returned (.int .i64 0) ∧ PutPost w g (s.push j ys) w' := by
  obtain ⟨vs, hb, hr⟩ := hh
  have hj4 : j < 4 := by have := hk.m1; omega
  obtain ⟨A, c', hv, hc⟩ := q_slice (hr.q j hj4)
  have cj : w.cell? ⟨g, j, none⟩ = some (.slice A (s.L j).length c') := by rw [hb.cell j, cellsOf_get _ _ _ _ _ hj4, hv]
  have c4 : w.cell? ⟨g, 4, none⟩ = some (.int .i64 s.many) := hb.cell 4
  have c5 : w.cell? ⟨g, 5, none⟩ = some (.int .i64 s.depth) := hb.cell 5
  have hj' : (j : Int) < 4 := by omega
  have hj0 : (0 : Int) ≤ j := by omega
  have hjn : ¬ (j : Int) < 0 := by omega
  have hjm : ¬ (s.many : Int) ≤ j := by omega
  have hl := hk.len j
  have hd := hk.d1
  have ha := hk.all_le
  have hw : IntKind.i64.wrap ((s.depth : Int) - ((s.L j).length : Int)) = (s.depth : Int) - ((s.L j).length : Int) := IntWalk.i64_in _ (by omega)
  have hw2 : IntKind.i64.wrap ((s.all : Int) + (m : Int)) = (s.all : Int) + (m : Int) := IntWalk.i64_in _ (by omega)
  have hfd : decide ((s.depth : Int) - ((s.L j).length : Int) < (m : Int)) = false := decide_eq_false (by omega)
  have HLE : Aside ((s.L j).length + m ≤ 5000) := ⟨by omega⟩
  have HQ : Aside (QRow w 0 9 1 (.slice A (s.L j).length c') (s.L j).length (strs (s.L j))) := ⟨by have := hr.q j hj4; rw [hv] at this; exact this⟩
  have HN : Aside ((Value.slice A (s.L j).length c').ownBlock ≠ some g) := ⟨by rw [← hv]; exact hr.ne hb hj4⟩
  have HB := Aside.mk hb
  have HR := Aside.mk hr
  have HV := Aside.mk hv
  have HS := Aside.mk hs
  have HJ := Aside.mk hj4
  have HK := Aside.mk hk
  have hM := Aside.mk hs.1
  clear hb hr hv hc hl hd hf hs hk ha
  go_enter Try.func11, Try.ntmps11
  go_wp2
  go_quiet (fail)
  go_wp2
  go_region_law ((refine step_push (by rfl) _ _ (by rfl) _ _ _ (by rfl) HQ.out _ m _ ys (by rfl) HS.out HLE.out ?_; intro A' c1 w1 hq hg hat; have cj' := far_cell hg cj HN.out; have hb1 := blk_grown hg HB.out HN.out; have hf1 := hb1.frozen j; have HQ1 := Aside.mk hq; have HG1 := Aside.mk hg; have HA1 := Aside.mk hat; have HB1 := Aside.mk hb1; clear hq hg hat hb1))
  all_goals
    have hb2 := HB1.out.set j (.slice A' ((s.L j).length + m) c1)
    rw [cellsOf_set _ _ _ _ _ HJ.out] at hb2
    have hu2 : Upon (· = g) w1 (w1.setCell ⟨g, j, none⟩ (.slice A' ((s.L j).length + m) c1)) := (Upon.refl (· = g) w1).setg (g := g) rfl _ _
    generalize w1.setCell ⟨g, j, none⟩ (.slice A' ((s.L j).length + m) c1) = w2 at hb2 hu2 ⊢
    have c7 : w2.cell? ⟨g, 7, none⟩ = some (.int .i64 s.all) := hb2.cell 7
    have f7 := hb2.frozen 7
    have HB2 := Aside.mk hb2
    have HU2 := Aside.mk hu2
    clear hb2 hu2
    go_wp2
    go_ret
    have hlen : (s.L j ++ ys).length = (s.L j).length + m := by rw [List.length_append, hM.out]
    have hput := put_done (a' := (s.push j ys).all) (t' := s.turn) (xs := s.L j ++ ys) (v' := .slice A' ((s.L j).length + m) c1) (w1 := w1) (w2 := w2.setCell ⟨g, 7, none⟩ (.int .i64 ((s.all : Int) + m))) (by exact HB.out) (by exact HR.out) HJ.out
      (by rw [hlen]; exact HQ1.out) (by rw [HV.out]; exact grown_drewN HG1.out) (by rw [HV.out]; exact HA1.out)
      (by have := HB2.out.set 7 (.int .i64 ((s.all : Int) + m)); rw [show ((s.all : Int) + m) = ((s.push j ys).all : Nat) by rw [St.push_all s HJ.out, hM.out]; omega] at this ⊢; exact this)
      (HU2.out.setg (g := g) rfl _ _)
    exact ⟨rfl, ⟨_, (by have := HB2.out.set 7 (.int .i64 ((s.all : Int) + m)); rw [show ((s.all : Int) + m) = ((s.push j ys).all : Nat) by rw [St.push_all s HJ.out, hM.out]; omega] at this ⊢; exact this), hput.1⟩, hput.2⟩
end Go.Proofs.Ytjhpeelgehchiaa
