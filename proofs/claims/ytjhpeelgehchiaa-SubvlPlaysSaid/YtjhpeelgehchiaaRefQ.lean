/- What each function of the document's queues answers and leaves. Conditions: its list lies in a row of its own. -/
import Derived.Test.YtjhpeelgehchiaaGen
namespace Go.Proofs.Ytjhpeelgehchiaa
open Go.RowKit Go.Proofs.YtjhpeelgehchiaaW.PrintWords
set_option linter.unusedVariables false

abbrev Tx := Nat × ByteArray
def prs : List Tx → List Value
  | [] => []
  | p :: l => .int .i64 p.1 :: .string p.2 :: prs l
theorem prs_length : ∀ l : List Tx, (prs l).length = l.length * 2
  | [] => rfl
  | p :: l => by simp [prs, prs_length l]; omega
theorem prs_append : ∀ l m : List Tx, prs (l ++ m) = prs l ++ prs m
  | [], m => rfl
  | p :: l, m => by simp [prs, prs_append l m]
theorem prs_one : ∀ l : List Tx, ∀ u ∈ prs l, u.oneCell' = true
  | [], u, h => by simp [prs] at h
  | p :: l, u, h => by
    simp only [prs, List.mem_cons] at h
    rcases h with rfl | rfl | h
    · rfl
    · rfl
    · exact prs_one l u h
theorem prs_get : ∀ (l : List Tx) (i : Nat) (p : Tx), l[i]? = some p → (prs l)[i * 2]? = some (.int .i64 p.1) ∧ (prs l)[i * 2 + 1]? = some (.string p.2)
  | [], i, p, h => by simp at h
  | q :: l, 0, p, h => by
    simp at h
    subst h
    exact ⟨rfl, rfl⟩
  | q :: l, i + 1, p, h => by
    simp only [List.getElem?_cons_succ] at h
    have := prs_get l i p h
    rw [show (i + 1) * 2 = i * 2 + 1 + 1 by omega]
    exact this
theorem prs_take : ∀ (l : List Tx) (k : Nat), prs (l.take k) = (prs l).take (k * 2)
  | [], k => by simp [prs]
  | p :: l, 0 => by simp [prs]
  | p :: l, k + 1 => by
    rw [show (k + 1) * 2 = k * 2 + 1 + 1 by omega]
    simp [prs, prs_take l k]
theorem prs_drop : ∀ (l : List Tx) (k : Nat), prs (l.drop k) = (prs l).drop (k * 2)
  | [], k => by simp [prs]
  | p :: l, 0 => by simp
  | p :: l, k + 1 => by
    rw [show (k + 1) * 2 = k * 2 + 1 + 1 by omega]
    simp [prs, prs_drop l k]
/-- What the document's queues hold. -/
structure RS where
  l : List Tx
  many : Nat
  depth : Nat
  turn : Nat
def RHeld (w : World) (h : Nat) (r : RS) : Prop := ∃ v, Blk w h 50 #[v, .int .i64 r.many, .int .i64 r.depth, .int .i64 r.turn] ∧ QRow w 0 55 2 v r.l.length (prs r.l)
theorem mine_ref {w : World} {h k : Nat} {v : Value} {m d t : Int} (hb : Blk w h 50 #[v, .int .i64 m, .int .i64 d, .int .i64 t]) : Mine w h k ↔ (k = h ∨ v.ownBlock = some k) := by
  constructor
  · rintro (h1 | ⟨i, u, hi, hc, hv⟩)
    · exact .inl h1
    · rw [hb.cell i] at hc
      rcases four hi with rfl | rfl | rfl | rfl
      · simp at hc; subst hc; exact .inr hv
      · simp at hc; subst hc; simp [Value.ownBlock] at hv
      · simp at hc; subst hc; simp [Value.ownBlock] at hv
      · simp at hc; subst hc; simp [Value.ownBlock] at hv
  · rintro (h1 | hv)
    · exact .inl h1
    · exact .inr ⟨0, v, by omega, hb.cell 0, hv⟩
theorem RHeld.owns {w : World} {h : Nat} {r : RS} (H : RHeld w h r) : Owns w h := by
  obtain ⟨v, hb, hq⟩ := H
  intro k hk
  rcases (mine_ref hb).1 hk with rfl | hv
  · exact hb.lt
  · exact q_lt hq k hv
theorem RHeld.keep {w w1 : World} {h : Nat} {r : RS} (H : RHeld w h r) (hm : ∀ k, k < w.heap.size → Mine w h k → w1.heap[k]? = w.heap[k]?) : RHeld w1 h r := by
  have ho := H.owns
  obtain ⟨v, hb, hq⟩ := H
  exact ⟨v, (hm h hb.lt (.inl rfl)).trans hb, q_move hq fun k hk => hm k (q_lt hq k hk) ((mine_ref hb).2 (.inr hk))⟩
def RPost (w : World) (h : Nat) (r' : RS) (w' : World) : Prop := RHeld w' h r' ∧ Turns w w' h
theorem rne {w : World} {h : Nat} {v : Value} {cs : Array Value} {n : Nat} {xs : List Value} (hb : Blk w h 50 cs) (hq : QRow w 0 55 2 v n xs) : v.ownBlock ≠ some h := by
  intro he
  obtain ⟨_, cells, hc⟩ := q_typed hq h he
  unfold Blk at hb
  rw [hb] at hc
  injection hc with hc
  injection hc with _ ht
  exact absurd ht (by decide)
/-- The list has become another one, and is stored. -/
theorem rput {w w1 w2 : World} {h : Nat} {v v' : Value} {n n' : Nat} {xs xs' : List Value} {m d t m' d' t' : Int} (hb : Blk w h 50 #[v, .int .i64 m, .int .i64 d, .int .i64 t]) (hq0 : QRow w 0 55 2 v n xs)
    (hq : QRow w1 0 55 2 v' n' xs') (hg : w.grownBy w1 v.ownBlock) (hat : ∀ b, v'.ownBlock = some b → v.ownBlock = some b ∨ w.heap.size ≤ b)
    (hb2 : Blk w2 h 50 #[v', .int .i64 m', .int .i64 d', .int .i64 t']) (hu : Upon (· = h) w1 w2) : QRow w2 0 55 2 v' n' xs' ∧ Turns w w2 h := by
  have hb1 : Blk w1 h 50 _ := blk_grown hg hb (rne hb hq0)
  refine ⟨q_move hq fun k hk => hu.block k (q_lt hq k hk) (fun he => by subst he; exact rne hb1 hq hk), ?_, ?_⟩
  · exact (Upon.of_grown (S := Mine w h) hg fun k hk => (mine_ref hb).2 (.inr hk)).trans' hu fun i hi => .inl (by subst hi; exact .inl rfl)
  · intro k hk
    rcases (mine_ref hb2).1 hk with h1 | hv
    · exact .inl (.inl h1)
    · rcases hat k hv with h1 | h1
      · exact .inl ((mine_ref hb).2 (.inr h1))
      · exact .inr h1
def RS.fresh (m d : Nat) : RS := ⟨[], m, d, 0⟩
set_option maxHeartbeats 1000000 in
theorem rnew_ok (m d : Nat) (w : World) (h : 1 ≤ m ∧ m ≤ 4 ∧ 1 ≤ d ∧ d ≤ 1024) :
    Calls Try.prog 16 #[.int .i64 m, .int .i64 d] w fun e w' => e = .returned (.tuple #[.pointer (some ⟨w.heap.size, 0, none⟩), .int .i64 0]) ∧ RHeld w' w.heap.size (RS.fresh m d) ∧ (∀ k, Mine w' w.heap.size k → k = w.heap.size) ∧ Below w.heap.size w w' := by
  have h1 : ¬ ((m : Int) < 1) := by omega
  have h2 : ¬ ((4 : Int) < m) := by omega
  have h3 : ¬ ((d : Int) < 1) := by omega
  have h4 : ¬ ((1024 : Int) < d) := by omega
  clear h
  go_enter Try.func16, Try.ntmps16
  go_wp2
  go_ret2
  have hb := Blk.new w 50 #[.slice none 0 0, .int .i64 m, .int .i64 d, .int .i64 0]
  refine ⟨rfl, ⟨_, hb, q_of_own (own_nil _ 0 55 2)⟩, fun k hk => ?_, (Below.refl _ _).alloc (Nat.le_refl _) _⟩
  rcases (mine_ref (m := m) (d := d) (t := 0) hb).1 hk with h1 | hv
  · exact h1
  · simp [Value.ownBlock] at hv
set_option maxHeartbeats 1000000 in
theorem rnew_no (m d : Int) (w : World) (h : ¬ (1 ≤ m ∧ m ≤ 4 ∧ 1 ≤ d ∧ d ≤ 1024)) :
    Calls Try.prog 16 #[.int .i64 m, .int .i64 d] w fun e w' => e = .returned (.tuple #[.pointer none, .int .i64 1]) ∧ w = w' := by
  have key : (m < 1) ∨ (¬ m < 1 ∧ 4 < m) ∨ (¬ m < 1 ∧ ¬ 4 < m ∧ d < 1) ∨ (¬ m < 1 ∧ ¬ 4 < m ∧ ¬ d < 1 ∧ 1024 < d) := by omega
  clear h
  rcases key with h | ⟨h1, h⟩ | ⟨h1, h2, h⟩ | ⟨h1, h2, h3, h⟩
  all_goals
    go_enter Try.func16, Try.ntmps16
    go_wp2
    go_ret2
    exact ⟨rfl, rfl⟩
/-- How many texts a queue has. -/
def cnt (l : List Tx) (i : Int) : Nat := (l.filter fun p => decide ((p.1 : Int) = i)).length
theorem cnt_take {l : List Tx} {k : Nat} {p : Tx} (h : l[k]? = some p) (i : Int) : cnt (l.take (k + 1)) i = cnt (l.take k) i + (if (p.1 : Int) = i then 1 else 0) := by
  unfold cnt
  rw [List.take_add_one, h, List.filter_append, List.length_append]
  congr 1
  by_cases hp : (p.1 : Int) = i <;> simp [hp]
theorem cnt_le (l : List Tx) (i : Int) : cnt l i ≤ l.length := List.length_filter_le _ _
/-- A text of the list, where it lies. -/
theorem r_read {w : World} {v : Value} {l : List Tx} (h : QRow w 0 55 2 v l.length (prs l)) (hn : 0 < l.length) : ∃ b off c, v = .slice (some ⟨b, off, none⟩) l.length c ∧ ∀ i p, l[i]? = some p → w.cell? ⟨b, off + i * 2, none⟩ = some (.int .i64 p.1) ∧ w.cell? ⟨b, off + i * 2 + 1, none⟩ = some (.string p.2) := by
  rcases h.2 with ⟨h0, _⟩ | ⟨g, off, cap, cur, he, hg, hh, hnc, hm, hcs, ht⟩
  · omega
  · refine ⟨g, off * 2, cap, he, fun i p hp => ?_⟩
    obtain ⟨ad, ha, hc⟩ := q_cells (by rw [he] at h; exact h) hn
    injection ha with ha
    subst ha
    obtain ⟨h1, h2⟩ := prs_get l i p hp
    have k1 := hc _ _ h1
    have k2 := hc _ _ h2
    rw [add_at] at k1 k2
    exact ⟨k1, by rw [Nat.add_assoc]; exact k2⟩
theorem RHeld.lists {w : World} {h : Nat} {r : RS} (H : RHeld w h r) : ∃ A c, w.cell? ⟨h, 0, none⟩ = some (.slice A r.l.length c) ∧ r.l.length ≤ c := by
  obtain ⟨v, hb, hq⟩ := H
  obtain ⟨A, c, rfl, hc⟩ := q_slice hq
  exact ⟨A, c, hb.cell 0, hc⟩
theorem RHeld.reads {w : World} {h : Nat} {r : RS} (H : RHeld w h r) (hn : 0 < r.l.length) : ∃ b off c, w.cell? ⟨h, 0, none⟩ = some (.slice (some ⟨b, off, none⟩) r.l.length c) ∧ ∀ i p, r.l[i]? = some p → w.cell? ⟨b, off + i * 2, none⟩ = some (.int .i64 p.1) ∧ w.cell? ⟨b, off + i * 2 + 1, none⟩ = some (.string p.2) := by
  obtain ⟨v, hb, hq⟩ := H
  obtain ⟨b, off, c, rfl, hc⟩ := r_read hq hn
  exact ⟨b, off, c, hb.cell 0, hc⟩
theorem RHeld.nums {w : World} {h : Nat} {r : RS} (H : RHeld w h r) : w.cell? ⟨h, 1, none⟩ = some (.int .i64 r.many) ∧ w.cell? ⟨h, 2, none⟩ = some (.int .i64 r.depth) ∧ w.cell? ⟨h, 3, none⟩ = some (.int .i64 r.turn) := by
  obtain ⟨v, hb, hq⟩ := H
  exact ⟨hb.cell 1, hb.cell 2, hb.cell 3⟩
set_option maxHeartbeats 2000000 in
theorem rlen_calls (h : Nat) (r : RS) (i : Int) (w : World) (H : RHeld w h r) (hsz : r.l.length ≤ 5000) : Calls Try.prog 21 #[.pointer (some ⟨h, 0, none⟩), .int .i64 i] w fun e w' => e = .returned (.int .i64 (cnt r.l i)) ∧ w = w' := by
  have HH := Aside.mk H
  have HSZ := Aside.mk hsz
  clear H hsz
  go_enter Try.func21, Try.ntmps21
  go_wp2_with fail
  go_loop [5, 6] (fun n k => ∃ q : Nat, q ≤ r.l.length ∧ k = .int .i64 q ∧ n = .int .i64 (cnt (r.l.take q) i)) (fun n k => r.l.length - (intOf k).toNat)
  case atStart => exact ⟨0, by omega, rfl, by simp [cnt]⟩
  case round =>
    obtain ⟨q, hq, rfl, rfl⟩ := hrel
    by_cases hlt : q < r.l.length
    · obtain ⟨b, off, c, h0, hc⟩ := HH.out.reads (by omega)
      obtain ⟨c1, c2⟩ := hc q _ (List.getElem?_eq_getElem hlt)
      have hcn := cnt_take (List.getElem?_eq_getElem hlt) i
      have hle := Nat.le_trans (cnt_le (r.l.take q) i) (by rw [List.length_take]; exact Nat.min_le_right _ _)
      have hq0 : (0 : Int) ≤ q := by omega
      have hq1 : (q : Int) < r.l.length := by omega
      have hs := HSZ.out
      have hw : IntKind.i64.wrap ((q : Int) + 1) = (q : Int) + 1 := IntWalk.i64_in _ (by omega)
      have hw2 : IntKind.i64.wrap ((cnt (r.l.take q) i : Int) + 1) = (cnt (r.l.take q) i : Int) + 1 := IntWalk.i64_in _ (by omega)
      have HCN := Aside.mk hcn
      clear hc hcn hs hle c2
      generalize r.l[q] = p at *
      by_cases hp : (p.1 : Int) = i
      · have hd : decide ((p.1 : Int) = i) = true := decide_eq_true hp
        go_wp2
        exact ⟨⟨q + 1, by omega, by simp, by rw [HCN.out, if_pos hp]; simp⟩, by simp [intOf]; omega⟩
      · have hd : decide ((p.1 : Int) = i) = false := decide_eq_false hp
        go_wp2
        exact ⟨⟨q + 1, by omega, by simp, by rw [HCN.out, if_neg hp]; simp⟩, by simp [intOf]; omega⟩
    · obtain ⟨A, c, h0, hc⟩ := HH.out.lists
      have hq1 : ¬ (q : Int) < r.l.length := by omega
      have : q = r.l.length := by omega
      subst this
      go_wp2
      go_ret
      exact ⟨rfl, rfl⟩
end Go.Proofs.Ytjhpeelgehchiaa
