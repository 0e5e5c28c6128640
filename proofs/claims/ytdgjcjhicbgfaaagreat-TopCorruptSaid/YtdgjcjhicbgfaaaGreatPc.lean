/- Calls taken as known, met: the filter's loops. Conditions: none but those that the lemmas name. -/
import Derived.Test.YtdgjcjhicbgfaaaGreatPa
import Derived.Test.YtdgjcjhicbgfaaaGreatDf
set_option linter.unusedVariables false
set_option linter.unusedSimpArgs false
set_option linter.unusedSimpArgs false
set_option linter.unusedVariables false
namespace Go.Proofs.YtdgjcjhicbgfaaaGreat
open Go.RowKit

def Fq.v (f : Fq AV) : Fq Value := ⟨f.seq, undef, f.nets⟩
theorem copyGo_map (net seq : Int) : ∀ (l : List (Fq AV)) (i : Nat) (e : Int), copyGo net seq (l.map Fq.v) i e = copyGo net seq l i e
  | [], i, e => rfl
  | f :: l, i, e => by
    simp only [List.map_cons, copyGo, Fq.v]
    split
    · split
      · exact copyGo_map net seq l _ _
      · rfl
    · exact copyGo_map net seq l _ _
theorem passGo_map (seq : Int) : ∀ (l : List (Fq AV)), passGo seq (l.map Fq.v) = passGo seq l
  | [] => rfl
  | f :: l => by
    simp only [List.map_cons, passGo, Fq.v]
    split
    · rfl
    · exact passGo_map seq l
theorem parseF_len : ∀ {l : List AV} {fs : List (Fq AV)}, parseF l = some fs → l.length = fs.length * 3
  | [], fs, h => by unfold parseF at h; cases h; rfl
  | a :: r, fs, h => by
    unfold parseF at h
    split at h
    · rename_i e; cases e
    · rename_i s t n r' e
      split at h <;> first | (cases h; done) | skip
      rename_i fs' h1 h2
      cases h
      cases e
      have := parseF_len h2
      simp [this]
      omega
    · cases h
theorem parseF_get : ∀ {l : List AV} {fs : List (Fq AV)}, parseF l = some fs → ∀ (i : Nat) (f : Fq AV), fs[i]? = some f → l[i * 3]? = some (.int .i64 f.seq) ∧ l[i * 3 + 2]? = some (.int .u64 f.nets) ∧ netsOk f.nets = true
  | [], fs, h, i, f, hi => by unfold parseF at h; cases h; simp at hi
  | a :: r, fs, h, i, f, hi => by
    unfold parseF at h
    split at h
    · rename_i e; cases e
    · rename_i s t n r' e
      split at h <;> first | (cases h; done) | skip
      rename_i fs' h1 h2
      cases h
      cases e
      cases i with
      | zero => simp at hi; subst hi; exact ⟨rfl, rfl, h1⟩
      | succ i =>
        have := parseF_get h2 i f (by simpa using hi)
        refine ⟨?_, ?_, this.2.2⟩
        · rw [show (i + 1) * 3 = i * 3 + 1 + 1 + 1 by omega]; simpa using this.1
        · rw [show (i + 1) * 3 + 2 = i * 3 + 2 + 1 + 1 + 1 by omega]; simpa using this.2.1
    · cases h
theorem fieldA_ok {base : Nat} {ν : Nu} {σ : St} {w : World} (r : Rel base ν σ w) {b o : Nat} {v : AV} {p : Value} (h : fieldA σ b o = some v) (hp : (AV.ptr b o).conc ν = some p) : ∃ k s u, p = .pointer (some ⟨k, s + o, none⟩) ∧ w.cell? ⟨k, s + o, none⟩ = some u ∧ v.conc ν = some u := by
  obtain ⟨k, s, n, h1, rfl⟩ := conc_ptr hp
  unfold fieldA at h
  split at h <;> first | (cases h; done) | skip
  rename_i c room hb
  obtain ⟨e, he, hi⟩ := r.obj b _ hb
  rw [h1] at he; cases he
  cases hi with
  | cells _ _ _ _ _ hr =>
    obtain ⟨u, g1, g2⟩ := hr.cell h
    exact ⟨k, s, u, rfl, g1, g2⟩
/-- The frames of a filter, where the machine's memory has them. -/
theorem frames_none {base : Nat} {ν : Nu} {σ : St} {w : World} (r : Rel base ν σ w) {v : AV} {u : Value} (h : frames σ v = some none) (hc : v.conc ν = some u) {k so : Nat} (hw : w.cell? ⟨k, so, none⟩ = some u) : FAt w k so 0 0 [] := by
  refine ⟨?_, fun i f hf => by simp at hf, fun i hi => by simp at hi, fun f hf => by simp at hf⟩
  unfold frames at h
  split at h
  · unfold AV.conc at hc; cases hc
    exact ⟨none, 0, hw, fun h => by simp at h⟩
  · rename_i b o q n d
    cases n with
    | zero =>
      obtain ⟨k', s', m, _, _, rfl⟩ := conc_slu hc
      exact ⟨_, _, hw, fun h => by simp at h⟩
    | succ n =>
      simp only at h
      split at h <;> first | (cases h; done) | skip
      split at h <;> cases h
  · cases h
theorem frames_some {base : Nat} {ν : Nu} {σ : St} {w : World} (r : Rel base ν σ w) {v : AV} {u : Value} {bb oo : Nat} {l : List AV} {fs : List (Fq AV)} (h : frames σ v = some (some (bb, oo, l))) (hl : parseF l = some fs) (hc : v.conc ν = some u) {k so : Nat} (hw : w.cell? ⟨k, so, none⟩ = some u) :
    ∃ k' s' m c room, fs.length ≤ 5000 ∧ ν bb = some (.loc k' s' m) ∧ σ.heap.get bb = some (.cells c room) ∧ oo + fs.length * 3 ≤ c.length ∧ FAt w k so k' (s' + oo) (fs.map Fq.v) := by
  unfold frames at h
  split at h
  · cases h
  · rename_i b o q n d
    cases n with
    | zero => cases h
    | succ n =>
      simp only at h
      split at h <;> first | (cases h; done) | skip
      rename_i c room hble hb
      have hble := Nat.le_of_ble_eq_true hble
      split at h <;> first | (cases h; done) | skip
      rename_i l' hcut
      cases h
      obtain ⟨k', s', m, h1, h2, rfl⟩ := conc_slu hc
      obtain ⟨q1, q2, q3, q4⟩ := cut_some hcut
      have hlen := parseF_len hl
      have hfs : fs.length = n + 1 := by omega
      obtain ⟨e, he, hi⟩ := r.obj bb _ hb
      rw [h1] at he; cases he
      cases hi with
      | cells _ _ _ _ _ hr =>
        refine ⟨k', s', m, c, room, by omega, h1, hb, by omega, ⟨⟨_, _, by rw [List.length_map, hfs]; exact hw, fun _ => by rw [if_pos (by omega)]⟩, ?_, ?_, ?_⟩⟩
        · intro i f hf
          rw [List.getElem?_map] at hf
          obtain ⟨f0, hf0, rfl⟩ := Option.map_eq_some_iff.1 hf
          have hi := (List.getElem?_eq_some_iff.1 hf0).1
          obtain ⟨p1, p2, _⟩ := parseF_get hl i f0 hf0
          rw [q4 _ (by omega)] at p1 p2
          obtain ⟨u1, g1, g2⟩ := hr.cell p1
          obtain ⟨u2, g3, g4⟩ := hr.cell p2
          unfold AV.conc at g2 g4
          cases g2
          cases g4
          refine ⟨?_, ?_⟩
          · rw [show s' + oo + i * 3 = s' + (oo + i * 3) by omega]; exact g1
          · rw [show s' + oo + i * 3 + 2 = s' + (oo + (i * 3 + 2)) by omega]; exact g3
        · intro i hi
          rw [List.length_map] at hi
          rw [show s' + oo + i * 3 + 2 = s' + (oo + (i * 3 + 2)) by omega]
          exact hr.melt (by omega)
        · intro f hf
          obtain ⟨f0, hf0, rfl⟩ := List.mem_map.1 hf
          obtain ⟨i, hi⟩ := List.mem_iff_getElem?.1 hf0
          exact (parseF_get hl i f0 hi).2.2
  · cases h
theorem pPassed_ok {base : Nat} {ν : Nu} {σ : St} {w : World} {args : List AV} {vs : List Value} {v : AV} {σ' : St} (h : pPassed args σ = some (v, σ')) (r : Rel base ν σ w) (ht : Top ν σ) (ha : AV.concL ν args = some vs) :
    Calls Tryz.prog 162 vs.toArray w (Done base ν σ w v σ') := by
  unfold pPassed at h
  split at h <;> first | (cases h; done) | skip
  rename_i b o seq
  split at h <;> first | (cases h; done) | skip
  rename_i x hx
  obtain ⟨p, y, g1, g2, rfl⟩ := concL_inv2 ha
  obtain ⟨k, s, u, rfl, k1, k2⟩ := fieldA_ok r hx g1
  cases g2
  split at h <;> first | (cases h; done) | skip
  · rename_i hf
    cases h
    exact Done.same r (c := .bool false) rfl (passed_calls k (s + o) 0 0 [] seq w (frames_none r hf k2 k1) (by simp))
  · rename_i bb oo l hf
    split at h <;> first | (cases h; done) | skip
    rename_i fs hp
    cases h
    obtain ⟨k', s', m, c, room, hsz, h1, h2, h3, hF⟩ := frames_some r hf hp k2 k1
    have := passed_calls k (s + o) k' (s' + oo) (fs.map Fq.v) seq w hF (by rw [List.length_map]; exact hsz)
    rw [passGo_map] at this
    exact Done.same r (c := .bool (passGo seq fs)) rfl this
theorem netOk_cases {n : Int} (h : netOk n = true) : n = 0 ∨ n = 1 := by
  unfold netOk at h
  split at h
  · exact .inl (by assumption)
  · split at h
    · exact .inr (by assumption)
    · cases h
/-- A cell of a row turned. -/
theorem mark_ok {base : Nat} {ν : Nu} {σ σ' : St} {w : World} {bb at_ : Nat} {e : Int} {v : AV} (h : markF σ bb at_ e = some (v, σ')) (r : Rel base ν σ w) {k s m : Nat} (hν : ν bb = some (.loc k s m)) :
    v = i64 e ∧ Rel base ν σ' (w.setCell ⟨k, s + at_, none⟩ (.int .u64 3)) ∧ Run ν σ w ν σ' (w.setCell ⟨k, s + at_, none⟩ (.int .u64 3)) := by
  unfold markF at h
  split at h <;> first | (cases h; done) | skip
  rename_i cs room hb
  split at h <;> first | (cases h; done) | skip
  rename_i hlt
  cases h
  have hlt := blt_lt hlt
  obtain ⟨e', he, hi⟩ := r.obj bb _ hb
  rw [hν] at he; cases he
  cases hi with
  | cells _ _ _ _ _ hr =>
    obtain ⟨cells, el, fr, h1, h2, h3, h4, h5⟩ := hr.out
    have hw : Wrote w (w.setCell ⟨k, s + at_, none⟩ (.int .u64 3)) k (cells.setIfInBounds (s + at_) (.int .u64 3)) el fr := by
      refine ⟨?_, fun j hj => Below.heap_setCell _ _ _ _ hj, by simp [World.setCell], rfl, rfl, rfl⟩
      simp [World.setCell, Array.getElem?_modify, h1]
    have hrow : Row ν (w.setCell ⟨k, s + at_, none⟩ (.int .u64 3)) (splice cs at_ [.int .u64 3]) room k s m := by
      refine hr.write (vs := [.int .u64 3]) h1 hw (by simp) ?_ rfl (by simp; omega)
      intro j
      rw [Array.getElem?_setIfInBounds]
      by_cases hj : s + at_ = j
      · subst hj
        rw [if_pos rfl, if_pos (by omega), if_pos (by simp)]
        simp
      · rw [if_neg hj, if_neg (by simp; omega)]
    refine ⟨rfl, ?_, ?_⟩
    · exact r.turn hb rfl hν (by simp [World.setCell]) (fun j hj => Below.heap_setCell _ _ _ _ hj) (.cells _ _ _ _ _ hrow)
    · exact Run.turn hb rfl hν rfl rfl rfl (by simp [World.setCell]) (fun j hj => Below.heap_setCell _ _ _ _ hj)
theorem pCopied_ok {base : Nat} {ν : Nu} {σ : St} {w : World} {args : List AV} {vs : List Value} {v : AV} {σ' : St} (h : pCopied args σ = some (v, σ')) (r : Rel base ν σ w) (ht : Top ν σ) (ha : AV.concL ν args = some vs) :
    Calls Tryz.prog 161 vs.toArray w (Done base ν σ w v σ') := by
  unfold pCopied at h
  split at h <;> first | (cases h; done) | skip
  rename_i b o net seq
  split at h <;> first | (cases h; done) | skip
  rename_i x hnet hx
  have hnet := netOk_cases hnet
  obtain ⟨p, y, g1, g2, rfl⟩ := concL_cons ha
  obtain ⟨y1, y2, g3, g4, rfl⟩ := concL_inv2 g2
  obtain ⟨k, s, u, rfl, k1, k2⟩ := fieldA_ok r hx g1
  cases g3
  cases g4
  split at h <;> first | (cases h; done) | skip
  · rename_i hf
    cases h
    refine Done.same r (c := .int .i64 0) rfl ((copied_calls k (s + o) 0 0 [] net seq w (frames_none r hf k2 k1) hnet (by simp)).mono ?_)
    rintro e w' (⟨i, hi, _⟩ | ⟨c, hc, rfl, hb⟩)
    · simp at hi
    · cases hc; exact ⟨rfl, hb⟩
  · rename_i bb oo l hf
    split at h <;> first | (cases h; done) | skip
    rename_i fs hp
    obtain ⟨k', s', m, c, room, hsz, h1, h2, h3, hF⟩ := frames_some r hf hp k2 k1
    have hcall := copied_calls k (s + o) k' (s' + oo) (fs.map Fq.v) net seq w hF hnet (by rw [List.length_map]; exact hsz)
    split at h
    · rename_i e hgo
      cases h
      refine Done.same r (c := .int .i64 e) rfl (hcall.mono ?_)
      rintro e' w' (⟨i, hi, hc, _⟩ | ⟨c, hc, rfl, hb⟩)
      · rw [copyGo_map, hgo] at hc; cases hc
      · rw [copyGo_map, hgo] at hc; cases hc; exact ⟨rfl, hb⟩
    · rename_i e i hgo
      refine hcall.mono ?_
      rintro e' w' (⟨i', hi, hc, rfl, hm⟩ | ⟨c, hc, rfl, hb⟩)
      · rw [copyGo_map, hgo] at hc
        cases hc
        obtain ⟨rfl, r1, q1⟩ := mark_ok h r h1
        unfold Marked at hm
        rw [show s' + (oo + (i * 3 + 2)) = s' + oo + i * 3 + 2 by omega] at r1 q1
        have hg : Grow (w.setCell ⟨k', s' + oo + i * 3 + 2, none⟩ (.int .u64 3)) w' := ⟨hm.os, hm.tape, hm.output, hm.size, fun j hj => hm.block j (by simpa [World.setCell] using hj)⟩
        exact ⟨ν, .int .i64 21, rfl, rfl, r1.grow hg, q1.trans (Run.grow r1 hg)⟩
      · rw [copyGo_map, hgo] at hc; cases hc
end Go.Proofs.YtdgjcjhicbgfaaaGreat
