/- forget: what is too long ago goes. Conditions: the filter lies; its frames came before. -/
import Derived.Test.YtdhgallfplbhpaaFlt
namespace Go.Proofs.Ytdhgallfplbhpaa
open Go.RowKit Go.Proofs.YtdhgallfplbhpaaW.PrintWords
set_option linter.unusedVariables false

def FS.late (s : FS) (now : Int) (f : Fr) : Bool := decide (s.skew < now - f.tick)
def FS.forget (s : FS) (now : Int) : FS := { s with l := s.l.dropWhile (s.late now), now := now }
theorem dropWhile_at {α : Type} (p : α → Bool) : ∀ (l : List α) (k : Nat), k ≤ l.length → (∀ i f, i < k → l[i]? = some f → p f = true) → (∀ f, l[k]? = some f → p f = false) → l.dropWhile p = l.drop k
  | [], k, hk, h1, h2 => by simp
  | f :: l, 0, hk, h1, h2 => by
    have := h2 f rfl
    simp [this]
  | f :: l, k + 1, hk, h1, h2 => by
    have hf := h1 0 f (by omega) rfl
    rw [List.dropWhile_cons, if_pos hf, List.drop_succ_cons]
    exact dropWhile_at p l k (by simpa using hk) (fun i f' hi hf' => h1 (i + 1) f' (by omega) (by simpa using hf')) (fun f' hf' => h2 f' (by simpa using hf'))
def lenAt (g : Nat) (w : World) : Nat := match w.cell? ⟨g, 0, none⟩ with | some (.slice _ n _) => n | _ => 0
theorem lenAt_of {g : Nat} {w : World} {A : Option Addr} {n c : Nat} (h : w.cell? ⟨g, 0, none⟩ = some (.slice A n c)) : lenAt g w = n := by unfold lenAt; rw [h]
theorem Held.lenAt {K : Kd} {w : World} {g : Nat} {s : FS} (H : Held K w g s) : lenAt g w = s.l.length := by
  obtain ⟨A, c, h0, _⟩ := H.slice
  exact lenAt_of h0
/-- So many frames have been forgotten. -/
structure Fgt (w : World) (g : Nat) (s : FS) (now : Int) (k : Nat) (wr : World) : Prop where
  post : PutPost KI w g { s with l := s.l.drop k, now := now } wr
  gone : ∀ i f, i < k → s.l[i]? = some f → s.late now f = true
theorem Held.setNow {K : Kd} {w : World} {g : Nat} {s : FS} (H : Held K w g s) (now : Int) : PutPost K w g { s with now := now } (w.setCell ⟨g, 2, none⟩ (.int .i64 now)) := by
  obtain ⟨v, hb, hq⟩ := H
  exact put_same hb hq (s' := { s with now := now }) rfl (hb.set 2 (.int .i64 now)) ((Upon.refl (· = g) w).setg (g := g) rfl _ _)
theorem Held.frozen {K : Kd} {w : World} {g : Nat} {s : FS} (H : Held K w g s) (i : Nat) : w.frozen? ⟨g, i, none⟩ = false := by
  obtain ⟨v, hb, hq⟩ := H
  exact hb.frozen i
theorem PutPost.drewN {K : Kd} {a b : World} {g : Nat} {s : FS} (h : PutPost K a g s b) (n : Nat) : PutPost K a g s (b.drewN n) := ⟨h.1.keep fun k hk _ => rfl, h.2.drewN n⟩
set_option maxHeartbeats 2000000 in
theorem forget_calls (g : Nat) (s : FS) (now : Int) (w : World) (H : Held KI w g s) (hn : 0 ≤ now ∧ now ≤ 1125899906842624) (ht : ∀ f ∈ s.l, 0 ≤ f.tick ∧ f.tick ≤ 1125899906842624) :
    Calls Try.prog 23 #[.pointer (some ⟨g, 0, none⟩), .int .i64 now] w fun e w' => e = .returned (.tuple #[]) ∧ PutPost KI w g (s.forget now) w' := by
  obtain ⟨v, c0, c1, c2, c3, c4, c5⟩ := H.cells
  have f2 := H.frozen 2
  have HN := Aside.mk hn
  have HT := Aside.mk ht
  have HP : Aside (Fgt w g s now 0 (w.setCell ⟨g, 2, none⟩ (.int .i64 now))) := ⟨⟨H.setNow now, fun i f hi => absurd hi (by omega)⟩⟩
  clear H c0 c1 c3 c4 c5 hn ht
  go_enter Try.func23, Try.ntmps23
  go_wp2_with fail
  generalize w.setCell ⟨g, 2, none⟩ (.int .i64 now) = w1 at HP ⊢
  go_loopw [] (fun wr => ∃ k : Nat, k ≤ s.l.length ∧ Aside (Fgt w g s now k wr)) (fun wr => lenAt g wr)
  case atStart => exact ⟨0, by omega, HP⟩
  case round =>
    clear HP
    obtain ⟨k, hk, HP⟩ := hrel
    by_cases hlt : k < s.l.length
    · have hlen : (s.l.drop k).length = s.l.length - k := List.length_drop
      have hf := List.getElem?_eq_getElem hlt
      obtain ⟨b, off, c, h0, hnc, hr⟩ := HP.out.post.1.reads (by rw [hlen]; omega)
      have hf0 : (s.l.drop k)[0]? = some s.l[k] := by rw [List.getElem?_drop]; exact hf
      have hx := hr 0 _ hf0 1 (.int .i64 (s.l[k]).tick) (by decide) rfl
      rw [Nat.zero_mul, Nat.add_zero] at hx
      have d1 : wr.cell? ⟨g, 1, none⟩ = some (.int .i64 s.skew) := HP.out.post.1.c1
      have htk := HT.out _ (List.getElem_mem hlt)
      have hn := HN.out
      have HF := Aside.mk hf
      generalize s.l[k] = f at *
      simp only at h0 hnc
      rw [hlen] at h0
      clear hr hf hf0
      generalize hNe : s.l.length - k = N at *
      have hpos : 0 < N := by omega
      have hd1 : decide (0 < N) = true := decide_eq_true hpos
      have hw : IntKind.i64.wrap (now - f.tick) = now - f.tick := IntWalk.i64_in _ (by omega)
      by_cases hl : s.skew < now - f.tick
      · have hd2 : decide (s.skew < now - f.tick) = true := decide_eq_true hl
        go_wp2_with fail
        go_quiet (fail)
        generalize hWQ : wr.drewN nq = wq
        have HP2 : Aside (Fgt w g s now k wq) := ⟨by rw [← hWQ]; exact ⟨HP.out.post.drewN nq, HP.out.gone⟩⟩
        have h0' : wq.cell? ⟨g, 0, none⟩ = some (.slice (some ⟨b, off, none⟩) N c) := by rw [← hWQ]; exact h0
        have f0 := HP2.out.post.1.frozen 0
        obtain ⟨A', hcut, hn', hpost⟩ := HP2.out.post.1.cut (k := 1) (by show 1 ≤ (s.l.drop k).length; rw [List.length_drop]; omega) h0'
        have hl1 : (s.l.drop k).length - 1 = N - 1 := by rw [List.length_drop]; omega
        simp only [hl1] at hcut hpost
        have hcut2 : ∀ W : World, (Instr.slice 52 (.slice (some ⟨b, off, none⟩) N c) (some (.int .i64 1)) none none).run Try.prog W = .ok (.slice A' (N - 1) (c - 1)) W := hcut
        have HQ : Aside (Fgt w g s now (k + 1) (wq.setCell ⟨g, 0, none⟩ (.slice A' (N - 1) (c - 1)))) := ⟨⟨HP2.out.post.trans (by
            have := hpost
            simp only [List.drop_drop] at this
            exact this), fun i f' hi hf' => by
          by_cases hik : i < k
          · exact HP.out.gone i f' hik hf'
          · have : i = k := by omega
            subst this
            rw [HF.out] at hf'
            injection hf' with hf'
            subst hf'
            exact decide_eq_true hl⟩⟩
        have hme : lenAt g (wq.setCell ⟨g, 0, none⟩ (.slice A' (N - 1) (c - 1))) < lenAt g wr := by
          rw [HQ.out.post.1.lenAt, HP.out.post.1.lenAt]
          show (s.l.drop (k + 1)).length < (s.l.drop k).length
          rw [List.length_drop, List.length_drop]
          omega
        have HME := Aside.mk hme
        clear hWQ hpost hcut hn' HP2 HP h0 hx hme
        go_wp2_with fail
        exact ⟨⟨k + 1, by omega, HQ⟩, HME.out⟩
      · have hd2 : decide (s.skew < now - f.tick) = false := decide_eq_false hl
        go_wp2_with fail
        go_quiet (fail)
        have HQ : Aside (PutPost KI w g (s.forget now) (wr.drewN nq)) := ⟨by
          have := HP.out.post.drewN nq
          rw [show ({ s with l := s.l.drop k, now := now } : FS) = s.forget now by unfold FS.forget; rw [dropWhile_at _ _ k hk HP.out.gone (fun f' hf' => by rw [HF.out] at hf'; injection hf' with hf'; subst hf'; exact decide_eq_false (by omega))]] at this
          exact this⟩
        go_wp2
        go_end0
        exact ⟨rfl, HQ.out⟩
    · obtain ⟨A, c, h0, _⟩ := HP.out.post.1.slice
      have hlen : (s.l.drop k).length = 0 := by rw [List.length_drop]; omega
      simp only [hlen] at h0
      go_wp2_with fail
      go_quiet (fail)
      have HQ : Aside (PutPost KI w g (s.forget now) (wr.drewN nq)) := ⟨by
        have := HP.out.post.drewN nq
        rw [show ({ s with l := s.l.drop k, now := now } : FS) = s.forget now by unfold FS.forget; rw [dropWhile_at _ _ k hk HP.out.gone (fun f' hf' => by rw [List.getElem?_eq_none (by omega)] at hf'; cases hf')]] at this
        exact this⟩
      go_wp2
      go_end0
      exact ⟨rfl, HQ.out⟩
end Go.Proofs.Ytdhgallfplbhpaa
