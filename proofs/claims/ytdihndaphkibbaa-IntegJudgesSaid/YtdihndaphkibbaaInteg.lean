/- What each function of package integ answers and leaves. Conditions: the judge lies in a block of its own. -/
import Derived.Test.YtdihndaphkibbaaBase
namespace Go.Proofs.Ytdihndaphkibbaa
open Go.RowKit
set_option linter.unusedVariables false

def numB (n : Int) : Bool := decide (0 ≤ n ∧ n ≤ 255)
theorem numB_true {b : Int} (h : 0 ≤ b ∧ b ≤ 255) : numB b = true := decide_eq_true h
theorem numB_false {b : Int} (h : ¬ (0 ≤ b ∧ b ≤ 255)) : numB b = false := decide_eq_false h
def step (a b : Int) : Int := if ¬ (0 ≤ a ∧ a ≤ 255) ∨ ¬ (0 ≤ b ∧ b ≤ 255) ∨ b = 0 then 0 else if (b - a + 255) % 255 = 0 then 255 else (b - a + 255) % 255
def next (s : Int) : Int := if s < 0 ∨ 255 ≤ s then 1 else s + 1
theorem next_range (s : Int) : 1 ≤ next s ∧ next s ≤ 255 := by unfold next; split <;> omega
theorem step_range (a b : Int) : 0 ≤ step a b ∧ step a b ≤ 255 := by
  unfold step
  split
  · omega
  · split
    · omega
    · omega

set_option maxHeartbeats 400000 in
theorem number_calls (b : Int) (w : World) : Calls Try.prog 22 #[.int .i64 b] w fun e w' => e = .returned (.bool (numB b)) ∧ w = w' := by
  by_cases h0 : 0 ≤ b
  · by_cases h1 : b ≤ 255
    · go_enter Try.func22, Try.ntmps22
      go_wp2
      go_ret
      exact ⟨by rw [numB_true ⟨h0, h1⟩]; rfl, rfl⟩
    · go_enter Try.func22, Try.ntmps22
      go_wp2
      go_ret
      exact ⟨by rw [numB_false (by omega)]; rfl, rfl⟩
  · go_enter Try.func22, Try.ntmps22
    go_wp2
    go_ret
    exact ⟨by rw [numB_false (by omega)]; rfl, rfl⟩
set_option maxHeartbeats 400000 in
theorem next_calls (s : Int) (w : World) : Calls Try.prog 27 #[.int .i64 s] w fun e w' => e = .returned (.int .i64 (next s)) ∧ w = w' := by
  by_cases h0 : s < 0
  · have HF : Aside (next s = 1) := ⟨by unfold next; rw [if_pos (.inl h0)]⟩
    go_enter Try.func27, Try.ntmps27
    go_wp2
    go_ret
    exact ⟨by rw [HF.out]; rfl, rfl⟩
  · by_cases h1 : 255 ≤ s
    · have HF : Aside (next s = 1) := ⟨by unfold next; rw [if_pos (.inr h1)]⟩
      go_enter Try.func27, Try.ntmps27
      go_wp2
      go_ret
      exact ⟨by rw [HF.out]; rfl, rfl⟩
    · have HF : Aside (next s = s + 1) := ⟨by unfold next; rw [if_neg (by omega)]⟩
      go_enter Try.func27, Try.ntmps27
      go_wp2
      go_ret
      exact ⟨by rw [HF.out]; rfl, rfl⟩
set_option maxHeartbeats 400000 in
theorem rnext_calls (s : Int) (w : World) : Calls Try.prog 15 #[.int .i64 s] w fun e w' => e = .returned (.int .i64 (next s)) ∧ w = w' := by
  by_cases h0 : s < 0
  · have HF : Aside (next s = 1) := ⟨by unfold next; rw [if_pos (.inl h0)]⟩
    go_enter Try.func15, Try.ntmps15
    go_wp2
    go_ret
    exact ⟨by rw [HF.out]; rfl, rfl⟩
  · by_cases h1 : 255 ≤ s
    · have HF : Aside (next s = 1) := ⟨by unfold next; rw [if_pos (.inr h1)]⟩
      go_enter Try.func15, Try.ntmps15
      go_wp2
      go_ret
      exact ⟨by rw [HF.out]; rfl, rfl⟩
    · have HF : Aside (next s = s + 1) := ⟨by unfold next; rw [if_neg (by omega)]⟩
      go_enter Try.func15, Try.ntmps15
      go_wp2
      go_ret
      exact ⟨by rw [HF.out]; rfl, rfl⟩
set_option maxHeartbeats 400000 in
theorem step_calls (a b : Int) (w : World) : Calls Try.prog 9 #[.int .i64 a, .int .i64 b] w fun e w' => e = .returned (.int .i64 (step a b)) ∧ w = w' := by
  by_cases h : ¬ (0 ≤ a ∧ a ≤ 255)
  · have HF : Aside (step a b = 0) := ⟨by unfold step; rw [if_pos (.inl h)]⟩
    have HA := Aside.mk (numB_false h)
    clear h
    go_enter Try.func9, Try.ntmps9
    go_wp2_with fail
    refine (number_calls _ _).mono ?_
    rintro e w' ⟨rfl, rfl⟩
    rw [HA.out]
    go_wp2
    go_ret
    exact ⟨by rw [HF.out]; rfl, rfl⟩
  by_cases h2 : ¬ (0 ≤ b ∧ b ≤ 255)
  · have HF : Aside (step a b = 0) := ⟨by unfold step; rw [if_pos (.inr (.inl h2))]⟩
    have HA : Aside (numB a = true) := ⟨numB_true (by omega)⟩
    have HB := Aside.mk (numB_false h2)
    clear h h2
    go_enter Try.func9, Try.ntmps9
    go_wp2_with fail
    refine (number_calls _ _).mono ?_
    rintro e w' ⟨rfl, rfl⟩
    rw [HA.out]
    go_wp2_with fail
    refine (number_calls _ _).mono ?_
    rintro e w' ⟨rfl, rfl⟩
    rw [HB.out]
    go_wp2
    go_ret
    exact ⟨by rw [HF.out]; rfl, rfl⟩
  have HA : Aside (numB a = true) := ⟨numB_true (by omega)⟩
  have HB : Aside (numB b = true) := ⟨numB_true (by omega)⟩
  by_cases h3 : b = 0
  · have HF : Aside (step a b = 0) := ⟨by unfold step; rw [if_pos (.inr (.inr h3))]⟩
    subst h3
    clear h h2
    go_enter Try.func9, Try.ntmps9
    go_wp2_with fail
    refine (number_calls _ _).mono ?_
    rintro e w' ⟨rfl, rfl⟩
    rw [HA.out]
    go_wp2_with fail
    refine (number_calls _ _).mono ?_
    rintro e w' ⟨rfl, rfl⟩
    rw [HB.out]
    go_wp2
    go_ret
    exact ⟨by rw [HF.out]; rfl, rfl⟩
  · have h4 : 1 ≤ b ∧ b ≤ 255 := by omega
    have h5 : 0 ≤ a ∧ a ≤ 255 := by omega
    obtain ⟨b0, b1⟩ := h4
    obtain ⟨a0, a1⟩ := h5
    have HN : ¬ (¬ (0 ≤ a ∧ a ≤ 255) ∨ ¬ (0 ≤ b ∧ b ≤ 255) ∨ b = 0) := by omega
    by_cases h6 : (b - a + 255) % 255 = 0
    · have HF : Aside (step a b = 255) := ⟨by unfold step; rw [if_neg HN, if_pos h6]⟩
      clear h h2 HN h3
      go_enter Try.func9, Try.ntmps9
      go_wp2_with fail
      refine (number_calls _ _).mono ?_
      rintro e w' ⟨rfl, rfl⟩
      rw [HA.out]
      go_wp2_with fail
      refine (number_calls _ _).mono ?_
      rintro e w' ⟨rfl, rfl⟩
      rw [HB.out]
      go_wp2
      go_ret
      exact ⟨by rw [HF.out]; rfl, rfl⟩
    · have HF : Aside (step a b = (b - a + 255) % 255) := ⟨by unfold step; rw [if_neg HN, if_neg h6]⟩
      clear h h2 HN h3
      go_enter Try.func9, Try.ntmps9
      go_wp2_with fail
      refine (number_calls _ _).mono ?_
      rintro e w' ⟨rfl, rfl⟩
      rw [HA.out]
      go_wp2_with fail
      refine (number_calls _ _).mono ?_
      rintro e w' ⟨rfl, rfl⟩
      rw [HB.out]
      go_wp2
      go_ret
      exact ⟨by rw [HF.out]; rfl, rfl⟩

/-! ### the judge -/
structure Jdg where
  seen : Bool
  last : Int
  other : Int
  odd : Bool
  lost : Int
  wrong : Int
def Jdg.cells (s : Jdg) : Array Value := #[.bool s.seen, .int .i64 s.last, .int .i64 s.other, .bool s.odd, .int .i64 s.lost, .int .i64 s.wrong]
structure Jdg.ok (s : Jdg) : Prop where
  last0 : 0 ≤ s.last ∧ s.last ≤ 255
  other0 : 0 ≤ s.other ∧ s.other ≤ 255
  lost0 : 0 ≤ s.lost
  wrong0 : 0 ≤ s.wrong
def Jdg.first (s : Jdg) (q : Int) : Bool := !s.seen || q == 0
def Jdg.near (s : Jdg) (q : Int) : Bool := q == next s.last || step s.last q == 2
def Jdg.after (s : Jdg) (q : Int) : Bool := s.odd && q == next s.other
def Jdg.may (s : Jdg) (q : Int) : Bool := s.first q || s.near q || s.after q
def Jdg.err (s : Jdg) (q : Int) : Int := if ¬ (0 ≤ q ∧ q ≤ 255) then 1 else if s.may q then 0 else 25
def Jdg.gap (s : Jdg) (q : Int) : Bool := s.seen && step s.last q == 2
def Jdg.take (s : Jdg) (q : Int) : Jdg :=
  if ¬ (0 ≤ q ∧ q ≤ 255) then s else if s.may q then { s with seen := true, last := q, odd := false, lost := if s.gap q then s.lost + 1 else s.lost } else { s with other := q, odd := true, wrong := s.wrong + 1 }
theorem jdg_cells {w : World} {g : Nat} {s : Jdg} (h : Blk w g 42 s.cells) : w.cell? ⟨g, 0, none⟩ = some (.bool s.seen) ∧ w.cell? ⟨g, 1, none⟩ = some (.int .i64 s.last) ∧ w.cell? ⟨g, 2, none⟩ = some (.int .i64 s.other) ∧ w.cell? ⟨g, 3, none⟩ = some (.bool s.odd) ∧ w.cell? ⟨g, 4, none⟩ = some (.int .i64 s.lost) ∧ w.cell? ⟨g, 5, none⟩ = some (.int .i64 s.wrong) :=
  ⟨h.cell 0, h.cell 1, h.cell 2, h.cell 3, h.cell 4, h.cell 5⟩
set_option maxHeartbeats 400000 in
theorem first_calls (g : Nat) (s : Jdg) (q : Int) (w : World) (h : Blk w g 42 s.cells) : Calls Try.prog 24 #[.pointer (some ⟨g, 0, none⟩), .int .i64 q] w fun e w' => e = .returned (.bool (s.first q)) ∧ w = w' := by
  obtain ⟨h0, h1, h2, h3, h4, h5⟩ := jdg_cells h
  clear h h1 h2 h3 h4 h5
  cases hs : s.seen with
  | false =>
    rw [hs] at h0
    have HF : Aside (s.first q = true) := ⟨by unfold Jdg.first; rw [hs]; rfl⟩
    clear hs
    go_enter Try.func24, Try.ntmps24
    go_wp2
    go_ret
    exact ⟨by rw [HF.out]; rfl, rfl⟩
  | true =>
    rw [hs] at h0
    have HF : Aside (s.first q = (q == 0)) := ⟨by unfold Jdg.first; rw [hs]; simp⟩
    clear hs
    go_enter Try.func24, Try.ntmps24
    go_wp2
    go_ret
    exact ⟨by rw [HF.out]; rfl, rfl⟩
set_option maxHeartbeats 400000 in
theorem near_calls (g : Nat) (s : Jdg) (q : Int) (w : World) (h : Blk w g 42 s.cells) : Calls Try.prog 25 #[.pointer (some ⟨g, 0, none⟩), .int .i64 q] w fun e w' => e = .returned (.bool (s.near q)) ∧ w = w' := by
  obtain ⟨h0, h1, h2, h3, h4, h5⟩ := jdg_cells h
  clear h h0 h2 h3 h4 h5
  cases hn : (q == next s.last) with
  | true =>
    have HF : Aside (s.near q = true) := ⟨by unfold Jdg.near; rw [hn]; rfl⟩
    go_enter Try.func25, Try.ntmps25
    go_wp2_with (go_at_call 27; refine (next_calls _ _).mono ?_; rintro e w' ⟨rfl, rfl⟩)
    go_ret
    exact ⟨by rw [HF.out]; rfl, rfl⟩
  | false =>
    have HF : Aside (s.near q = (step s.last q == 2)) := ⟨by unfold Jdg.near; rw [hn]; simp⟩
    go_enter Try.func25, Try.ntmps25
    go_wp2_with (first | (go_at_call 27; refine (next_calls _ _).mono ?_; rintro e w' ⟨rfl, rfl⟩) | (go_at_call 9; refine (step_calls _ _ _).mono ?_; rintro e w' ⟨rfl, rfl⟩))
    go_ret
    exact ⟨by rw [HF.out]; rfl, rfl⟩
set_option maxHeartbeats 400000 in
theorem after_calls (g : Nat) (s : Jdg) (q : Int) (w : World) (h : Blk w g 42 s.cells) : Calls Try.prog 26 #[.pointer (some ⟨g, 0, none⟩), .int .i64 q] w fun e w' => e = .returned (.bool (s.after q)) ∧ w = w' := by
  obtain ⟨h0, h1, h2, h3, h4, h5⟩ := jdg_cells h
  clear h h0 h1 h4 h5
  cases hn : s.odd with
  | false =>
    rw [hn] at h3
    have HF : Aside (s.after q = false) := ⟨by unfold Jdg.after; rw [hn]; rfl⟩
    clear hn
    go_enter Try.func26, Try.ntmps26
    go_wp2
    go_ret
    exact ⟨by rw [HF.out]; rfl, rfl⟩
  | true =>
    rw [hn] at h3
    have HF : Aside (s.after q = (q == next s.other)) := ⟨by unfold Jdg.after; rw [hn]; rfl⟩
    clear hn
    go_enter Try.func26, Try.ntmps26
    go_wp2_with (go_at_call 27; refine (next_calls _ _).mono ?_; rintro e w' ⟨rfl, rfl⟩)
    go_ret
    exact ⟨by rw [HF.out]; rfl, rfl⟩
def fnv (n g : Nat) : Value := .func (.func n) #[.pointer (some ⟨g, 0, none⟩)] #[]
def fns (g : Nat) : Array Value := #[.func (.func 24) #[.pointer (some ⟨g, 0, none⟩)] #[], .func (.func 25) #[.pointer (some ⟨g, 0, none⟩)] #[], .func (.func 26) #[.pointer (some ⟨g, 0, none⟩)] #[]]
def AnyRel (s : Jdg) (q : Int) (i : Value) : Prop := (i = .int .i64 0) ∨ (i = .int .i64 1 ∧ Aside (s.first q = false)) ∨ (i = .int .i64 2 ∧ Aside (s.first q = false ∧ s.near q = false)) ∨ (i = .int .i64 3 ∧ Aside (s.first q = false ∧ s.near q = false ∧ s.after q = false))
set_option maxHeartbeats 1000000 in
theorem any_calls (g c : Nat) (s : Jdg) (q : Int) (w : World) (h : Blk w g 42 s.cells) (hc : Blk w c 40 (fns g)) :
    Calls Try.prog 23 #[.int .i64 q, .slice (some ⟨c, 0, none⟩) 3 3] w fun e w' => e = .returned (.bool (s.may q)) ∧ w = w' := by
  have HB := Aside.mk h
  have c0 := hc.cell 0
  have c1 := hc.cell 1
  have c2 := hc.cell 2
  simp [fns] at c0 c1 c2
  clear h hc
  go_enter Try.func23, Try.ntmps23
  go_wp2
  go_loop [9] (AnyRel s q) (fun i => 3 - (intOf i).toNat)
  case atStart => exact .inl rfl
  case round =>
    rcases hrel with rfl | ⟨rfl, HR⟩ | ⟨rfl, HR⟩ | ⟨rfl, HR⟩
    · cases hf : s.first q with
      | true =>
        have HF : Aside (s.may q = true) := ⟨by unfold Jdg.may; rw [hf]; rfl⟩
        have HX := Aside.mk hf
        clear hf
        go_wp2_with (go_at_call 24; refine (first_calls _ _ _ _ HB.out).mono ?_; rintro e w' ⟨rfl, rfl⟩; rw [HX.out])
        go_ret
        exact ⟨by rw [HF.out]; rfl, rfl⟩
      | false =>
        have HX := Aside.mk hf
        clear hf
        go_wp2_with (go_at_call 24; refine (first_calls _ _ _ _ HB.out).mono ?_; rintro e w' ⟨rfl, rfl⟩; rw [HX.out])
        go_round
        case rel => exact .inr (.inl ⟨rfl, HX⟩)
        case measure => simp [intOf]
    · cases hf : s.near q with
      | true =>
        have HF : Aside (s.may q = true) := ⟨by unfold Jdg.may; rw [hf, HR.out]; rfl⟩
        have HX := Aside.mk hf
        clear hf
        go_wp2_with (go_at_call 25; refine (near_calls _ _ _ _ HB.out).mono ?_; rintro e w' ⟨rfl, rfl⟩; rw [HX.out])
        go_ret
        exact ⟨by rw [HF.out]; rfl, rfl⟩
      | false =>
        have HX := Aside.mk hf
        clear hf
        go_wp2_with (go_at_call 25; refine (near_calls _ _ _ _ HB.out).mono ?_; rintro e w' ⟨rfl, rfl⟩; rw [HX.out])
        go_round
        case rel => exact .inr (.inr (.inl ⟨rfl, ⟨HR.out, HX.out⟩⟩))
        case measure => simp [intOf]
    · cases hf : s.after q with
      | true =>
        have HF : Aside (s.may q = true) := ⟨by unfold Jdg.may; rw [hf, HR.out.1, HR.out.2]; rfl⟩
        have HX := Aside.mk hf
        clear hf
        go_wp2_with (go_at_call 26; refine (after_calls _ _ _ _ HB.out).mono ?_; rintro e w' ⟨rfl, rfl⟩; rw [HX.out])
        go_ret
        exact ⟨by rw [HF.out]; rfl, rfl⟩
      | false =>
        have HX := Aside.mk hf
        clear hf
        go_wp2_with (go_at_call 26; refine (after_calls _ _ _ _ HB.out).mono ?_; rintro e w' ⟨rfl, rfl⟩; rw [HX.out])
        go_round
        case rel => exact .inr (.inr (.inr ⟨rfl, ⟨HR.out.1, HR.out.2, HX.out⟩⟩))
        case measure => simp [intOf]
    · have HF : Aside (s.may q = false) := ⟨by unfold Jdg.may; rw [HR.out.1, HR.out.2.1, HR.out.2.2]; rfl⟩
      go_wp2
      go_ret
      exact ⟨by rw [HF.out]; rfl, rfl⟩
set_option maxHeartbeats 400000 in
theorem take_arg (g : Nat) (q : Int) (w : World) (hq : ¬ (0 ≤ q ∧ q ≤ 255)) : Calls Try.prog 13 #[.pointer (some ⟨g, 0, none⟩), .int .i64 q] w fun e w' => e = .returned (.int .i64 1) ∧ w = w' := by
  have HA := Aside.mk (numB_false hq)
  clear hq
  go_enter Try.func13, Try.ntmps13
  go_wp2_with (go_at_call 22; refine (number_calls _ _).mono ?_; rintro e w' ⟨rfl, rfl⟩; rw [HA.out])
  go_ret
  exact ⟨rfl, rfl⟩
set_option maxHeartbeats 1000000 in
theorem take_look (g : Nat) (s : Jdg) (q : Int) (w : World) (h : Blk w g 42 s.cells) (ok : s.ok) (hq : 0 ≤ q ∧ q ≤ 255) (hl : s.lost ≤ 1125899906842624) (hw : s.wrong ≤ 1125899906842624) : Calls Try.prog 13 #[.pointer (some ⟨g, 0, none⟩), .int .i64 q] w fun e w' => e = .returned (.int .i64 (s.err q)) ∧ Blk w' g 42 (s.take q).cells ∧ Upon (· = g) w w' := by
  have HA := Aside.mk (numB_true hq)
  have HQ := Aside.mk hq
  have hl0 := ok.lost0
  have hw0 := ok.wrong0
  go_enter Try.func13, Try.ntmps13
  go_wp2_with fail
  refine (number_calls _ _).mono ?_
  rintro e w' ⟨rfl, rfl⟩
  rw [HA.out]
  go_wp2_with fail
  have hb : Blk (w.alloc (.cells (fns g) 40)) g 42 s.cells := h.alloc _
  have hc : Blk (w.alloc (.cells (fns g) 40)) w.heap.size 40 (fns g) := Blk.new _ _ _
  have hu : Upon (· = g) w (w.alloc (.cells (fns g) 40)) := (Upon.refl _ w).alloc _
  change Calls _ _ _ (w.alloc (.cells (fns g) 40)) _
  generalize w.alloc (.cells (fns g) 40) = wa at hb hc hu ⊢
  refine (any_calls _ _ s _ _ hb hc).mono ?_
  rintro e w1 ⟨rfl, rfl⟩
  obtain ⟨h0, h1, h2, h3, h4, h5⟩ := jdg_cells hb
  have f0 := hb.frozen 0
  have f1 := hb.frozen 1
  have f2 := hb.frozen 2
  have f3 := hb.frozen 3
  have f4 := hb.frozen 4
  have f5 := hb.frozen 5
  have HB := Aside.mk hb
  have HU := Aside.mk hu
  clear hb hc hu h
  cases hm : s.may q with
  | false =>
    have E1 : Aside (s.err q = 25) := ⟨by unfold Jdg.err; rw [if_neg (by omega), hm]; rfl⟩
    have E2 : Aside (s.take q = { s with other := q, odd := true, wrong := s.wrong + 1 }) := ⟨by unfold Jdg.take; rw [if_neg (by omega), hm]; rfl⟩
    clear hm
    go_wp2
    go_ret
    refine ⟨by rw [E1.out]; rfl, ?_, ((HU.out.setg rfl _ _).setg rfl _ _).setg rfl _ _⟩
    rw [E2.out]
    have hb := ((HB.out.set 2 (.int .i64 q)).set 3 (.bool true)).set 5 (.int .i64 (s.wrong + 1))
    simpa [Jdg.cells] using hb
  | true =>
    have E1 : Aside (s.err q = 0) := ⟨by unfold Jdg.err; rw [if_neg (by omega), hm]; rfl⟩
    cases hg : s.gap q with
    | false =>
      have E2 : Aside (s.take q = { s with seen := true, last := q, odd := false }) := ⟨by unfold Jdg.take; rw [if_neg (by omega), hm, hg]; rfl⟩
      have fin : Aside (∀ w1 : World, Blk w1 g 42 s.cells → Blk (((w1.setCell ⟨g, 0, none⟩ (.bool true)).setCell ⟨g, 1, none⟩ (.int .i64 q)).setCell ⟨g, 3, none⟩ (.bool false)) g 42 ({ s with seen := true, last := q, odd := false } : Jdg).cells) := ⟨fun w1 hb => by
        have hb := ((hb.set 0 (.bool true)).set 1 (.int .i64 q)).set 3 (.bool false)
        simpa [Jdg.cells] using hb⟩
      cases hs : s.seen with
      | false =>
        rw [hs] at h0
        clear hm hg hs
        go_wp2
        go_ret
        exact ⟨by rw [E1.out]; rfl, by rw [E2.out]; exact fin.out _ HB.out, ((HU.out.setg rfl _ _).setg rfl _ _).setg rfl _ _⟩
      | true =>
        rw [hs] at h0
        have hx : (step s.last q == 2) = false := by unfold Jdg.gap at hg; rw [hs] at hg; simpa using hg
        clear hm hg hs
        go_wp2_with (go_at_call 9; refine (step_calls _ _ _).mono ?_; rintro e w' ⟨rfl, rfl⟩)
        go_ret
        exact ⟨by rw [E1.out]; rfl, by rw [E2.out]; exact fin.out _ HB.out, ((HU.out.setg rfl _ _).setg rfl _ _).setg rfl _ _⟩
    | true =>
      have E2 : Aside (s.take q = { s with seen := true, last := q, odd := false, lost := s.lost + 1 }) := ⟨by unfold Jdg.take; rw [if_neg (by omega), hm, hg]; rfl⟩
      unfold Jdg.gap at hg
      simp only [Bool.and_eq_true] at hg
      obtain ⟨hs, hx⟩ := hg
      rw [hs] at h0
      clear hm hs
      go_wp2_with (go_at_call 9; refine (step_calls _ _ _).mono ?_; rintro e w' ⟨rfl, rfl⟩)
      go_ret
      refine ⟨by rw [E1.out]; rfl, ?_, (((HU.out.setg rfl _ _).setg rfl _ _).setg rfl _ _).setg rfl _ _⟩
      rw [E2.out]
      have hb := (((HB.out.set 4 (.int .i64 (s.lost + 1))).set 0 (.bool true)).set 1 (.int .i64 q)).set 3 (.bool false)
      simpa [Jdg.cells] using hb
theorem take_calls (g : Nat) (s : Jdg) (q : Int) (w : World) (h : Blk w g 42 s.cells) (ok : s.ok) (hl : s.lost ≤ 1125899906842624) (hw : s.wrong ≤ 1125899906842624) : Calls Try.prog 13 #[.pointer (some ⟨g, 0, none⟩), .int .i64 q] w fun e w' => e = .returned (.int .i64 (s.err q)) ∧ Blk w' g 42 (s.take q).cells ∧ Upon (· = g) w w' := by
  by_cases hq : 0 ≤ q ∧ q ≤ 255
  · exact take_look g s q w h ok hq hl hw
  · have e1 : s.err q = 1 := by unfold Jdg.err; rw [if_pos hq]
    have e2 : s.take q = s := by unfold Jdg.take; rw [if_pos hq]
    rw [e1, e2]
    exact (take_arg g q w hq).mono fun e w' ⟨he, hw⟩ => by subst hw; exact ⟨he, h, Upon.refl _ _⟩
theorem Jdg.take_ok {s : Jdg} (h : s.ok) (q : Int) : (s.take q).ok := by
  have := h.lost0
  have := h.wrong0
  unfold Jdg.take
  split
  · exact h
  · rename_i hq
    split
    · exact ⟨by simp; omega, h.other0, by simp; split <;> omega, h.wrong0⟩
    · exact ⟨h.last0, by simp; omega, h.lost0, by simp; omega⟩
theorem Jdg.take_cnt (s : Jdg) (q : Int) : (s.take q).lost ≤ s.lost + 1 ∧ (s.take q).wrong ≤ s.wrong + 1 := by
  unfold Jdg.take
  split
  · omega
  · split
    · refine ⟨?_, ?_⟩ <;> simp <;> (try split) <;> omega
    · exact ⟨by simp; omega, by simp⟩
def Jdg.new : Jdg := ⟨false, 0, 0, false, 0, 0⟩
theorem Jdg.new_ok : Jdg.new.ok := ⟨by simp [Jdg.new], by simp [Jdg.new], by simp [Jdg.new], by simp [Jdg.new]⟩
set_option maxHeartbeats 400000 in
theorem new_calls (w : World) : Calls Try.prog 12 #[] w fun e w' => e = .returned (.pointer (some ⟨w.heap.size, 0, none⟩)) ∧ Blk w' w.heap.size 42 Jdg.new.cells ∧ Below w.heap.size w w' := by
  go_enter Try.func12, Try.ntmps12
  go_wp2
  go_ret
  exact ⟨rfl, Blk.new _ _ _, (Below.refl _ _).alloc (Nat.le_refl _) _⟩
def Jdg.lastOf (s : Jdg) : Int := if s.seen then s.last else -1
set_option maxHeartbeats 400000 in
theorem last_calls (g : Nat) (s : Jdg) (w : World) (h : Blk w g 42 s.cells) : Calls Try.prog 14 #[.pointer (some ⟨g, 0, none⟩)] w fun e w' => e = .returned (.int .i64 s.lastOf) ∧ w = w' := by
  obtain ⟨h0, h1, h2, h3, h4, h5⟩ := jdg_cells h
  clear h h2 h3 h4 h5
  cases hs : s.seen with
  | false =>
    have HF : Aside (s.lastOf = -1) := ⟨by unfold Jdg.lastOf; rw [hs]; rfl⟩
    rw [hs] at h0
    clear hs
    go_enter Try.func14, Try.ntmps14
    go_wp2
    go_ret
    exact ⟨by rw [HF.out]; rfl, rfl⟩
  | true =>
    have HF : Aside (s.lastOf = s.last) := ⟨by unfold Jdg.lastOf; rw [hs]; rfl⟩
    rw [hs] at h0
    clear hs
    go_enter Try.func14, Try.ntmps14
    go_wp2
    go_ret
    exact ⟨by rw [HF.out]; rfl, rfl⟩
set_option maxHeartbeats 400000 in
theorem lost_calls (g : Nat) (n : Int) (w : World) (h : w.cell? ⟨g, 4, none⟩ = some (.int .i64 n)) : Calls Try.prog 16 #[.pointer (some ⟨g, 0, none⟩)] w fun e w' => e = .returned (.int .i64 n) ∧ w = w' := by
  go_enter Try.func16, Try.ntmps16
  go_wp2
  go_ret
  exact ⟨rfl, rfl⟩
set_option maxHeartbeats 400000 in
theorem wrong_calls (g : Nat) (n : Int) (w : World) (h : w.cell? ⟨g, 5, none⟩ = some (.int .i64 n)) : Calls Try.prog 17 #[.pointer (some ⟨g, 0, none⟩)] w fun e w' => e = .returned (.int .i64 n) ∧ w = w' := by
  go_enter Try.func17, Try.ntmps17
  go_wp2
  go_ret
  exact ⟨rfl, rfl⟩
def Jdg.reset (s : Jdg) : Jdg := ⟨false, 0, 0, false, s.lost, s.wrong⟩
theorem Jdg.reset_ok {s : Jdg} (h : s.ok) : s.reset.ok := ⟨by simp [Jdg.reset], by simp [Jdg.reset], h.lost0, h.wrong0⟩
set_option maxHeartbeats 400000 in
theorem reset_calls (g : Nat) (s : Jdg) (w : World) (h : Blk w g 42 s.cells) : Calls Try.prog 19 #[.pointer (some ⟨g, 0, none⟩)] w fun e w' => e = .returned (.tuple #[]) ∧ Blk w' g 42 s.reset.cells ∧ Upon (· = g) w w' := by
  obtain ⟨h0, h1, h2, h3, h4, h5⟩ := jdg_cells h
  have f0 := h.frozen 0
  have f1 := h.frozen 1
  have f2 := h.frozen 2
  have f3 := h.frozen 3
  have f4 := h.frozen 4
  have f5 := h.frozen 5
  have HB := Aside.mk h
  clear h
  go_enter Try.func19, Try.ntmps19
  go_wp2
  go_region
  all_goals
    go_wp2
    go_end0
    refine ⟨rfl, ?_, ?_⟩
    · have hb := ((((((HB.out.set 0 (.bool false)).set 1 (.int .i64 0)).set 2 (.int .i64 0)).set 3 (.bool false)).set 4 (.int .i64 s.lost)).set 5 (.int .i64 s.wrong)).drew
      simpa [Jdg.cells, Jdg.reset] using hb
    · exact (((((((Upon.refl (· = g) w).setg rfl _ _).setg rfl _ _).setg rfl _ _).setg rfl _ _).setg rfl _ _).setg rfl _ _).drew

/-! ### nil -/
set_option maxHeartbeats 400000 in
theorem take_nil (q : Int) (w : World) : Calls Try.prog 13 #[.pointer none, .int .i64 q] w fun e w' => e = .returned (.int .i64 2) ∧ w = w' := by
  go_enter Try.func13, Try.ntmps13
  go_wp2
  go_ret
  exact ⟨rfl, rfl⟩
set_option maxHeartbeats 400000 in
theorem last_nil (w : World) : Calls Try.prog 14 #[.pointer none] w fun e w' => e = .returned (.int .i64 (-1)) ∧ w = w' := by
  go_enter Try.func14, Try.ntmps14
  go_wp2
  go_ret
  exact ⟨rfl, rfl⟩
set_option maxHeartbeats 400000 in
theorem lost_nil (w : World) : Calls Try.prog 16 #[.pointer none] w fun e w' => e = .returned (.int .i64 0) ∧ w = w' := by
  go_enter Try.func16, Try.ntmps16
  go_wp2
  go_ret
  exact ⟨rfl, rfl⟩
set_option maxHeartbeats 400000 in
theorem wrong_nil (w : World) : Calls Try.prog 17 #[.pointer none] w fun e w' => e = .returned (.int .i64 0) ∧ w = w' := by
  go_enter Try.func17, Try.ntmps17
  go_wp2
  go_ret
  exact ⟨rfl, rfl⟩
set_option maxHeartbeats 400000 in
theorem reset_nil (w : World) : Calls Try.prog 19 #[.pointer none] w fun e w' => e = .returned (.tuple #[]) ∧ w = w' := by
  go_enter Try.func19, Try.ntmps19
  go_wp2
  go_end0
  exact ⟨rfl, rfl⟩

/-! ### the example -/
structure At (w : World) (g : Nat) (wr : World) (s : Jdg) (n : Int) : Prop where
  blk : Blk wr g 42 s.cells
  ok : s.ok
  lost : s.lost ≤ n
  wrong : s.wrong ≤ n
  below : Below w.heap.size w wr
theorem At.take {w wr w1 : World} {g : Nat} {s : Jdg} {n : Int} (h : At w g wr s n) (hg : w.heap.size ≤ g) {q : Int} (hb : Blk w1 g 42 (s.take q).cells) (hu : Upon (· = g) wr w1) : At w g w1 (s.take q) (n + 1) :=
  ⟨hb, Jdg.take_ok h.ok q, by have := (s.take_cnt q).1; have := h.lost; omega, by have := (s.take_cnt q).2; have := h.wrong; omega, h.below.trans (Upon.below (B := w.heap.size) hu (by exact h.below.size) (fun i hi => by omega))⟩
theorem At.drewN {w wr : World} {g : Nat} {s : Jdg} {n : Int} (h : At w g wr s n) (m : Nat) : At w g (wr.drewN m) s n := ⟨h.blk, h.ok, h.lost, h.wrong, below_drewN h.below m⟩
theorem At.mono {w wr : World} {g : Nat} {s : Jdg} {n m : Int} (h : At w g wr s n) (hm : n ≤ m) : At w g wr s m := ⟨h.blk, h.ok, by have := h.lost; omega, by have := h.wrong; omega, h.below⟩
theorem At.new {w w1 : World} (hb : Blk w1 w.heap.size 42 Jdg.new.cells) (hu : Below w.heap.size w w1) : At w w.heap.size w1 Jdg.new 0 := ⟨hb, Jdg.new_ok, by simp [Jdg.new], by simp [Jdg.new], hu⟩
theorem take_at {w : World} {g : Nat} (wr : World) {s : Jdg} {n : Int} (q : Int) (h : At w g wr s n) (hg : w.heap.size ≤ g) (hn : n ≤ 1125899906842624) : Calls Try.prog 13 #[.pointer (some ⟨g, 0, none⟩), .int .i64 q] wr fun e w' => e = .returned (.int .i64 (s.err q)) ∧ At w g w' (s.take q) (n + 1) :=
  (take_calls g s q wr h.blk h.ok (by have := h.lost; omega) (by have := h.wrong; omega)).mono fun _ _ ⟨he, hb, hu⟩ => ⟨he, h.take hg hb hu⟩
def j1 : Jdg := Jdg.new.take 0
def j2 : Jdg := j1.take 1
def j3 : Jdg := j2.take 3
def j4 : Jdg := j3.take 3
def j5 : Jdg := j4.take 9
def j6 : Jdg := j5.take 10
theorem aw : Jdg.new.err 0 = 0 ∧ j1.err 1 = 0 ∧ j2.err 3 = 0 ∧ j3.err 3 = 25 ∧ j4.err 9 = 25 ∧ j5.err 10 = 0 ∧ j6.lost = 1 ∧ j6.wrong = 2 := by decide
set_option maxRecDepth 100000 in
set_option maxHeartbeats 1000000 in
theorem awake_calls (w : World) : Calls Try.prog 11 #[] w fun e w' => e = .returned (.bool true) ∧ Below w.heap.size w w' := by
  have AW := Aside.mk aw
  go_enter Try.func11, Try.ntmps11
  go_wp2_with fail
  refine (new_calls _).mono ?_
  rintro e w1 ⟨rfl, hb, hu⟩
  have H0 := Aside.mk (At.new hb hu)
  clear hb hu
  go_wp2_with fail
  refine (take_at _ 0 H0.out (Nat.le_refl _) (by decide)).mono ?_
  rintro e w2 ⟨rfl, h⟩
  rw [AW.out.1]
  have H1 : Aside (At w w.heap.size w2 j1 1) := ⟨h⟩
  clear h
  go_wp2_with fail
  refine (take_at _ 1 H1.out (Nat.le_refl _) (by decide)).mono ?_
  rintro e w3 ⟨rfl, h⟩
  rw [AW.out.2.1]
  have H2 : Aside (At w w.heap.size w3 j2 2) := ⟨h⟩
  clear h
  go_wp2_with fail
  refine (take_at _ 3 H2.out (Nat.le_refl _) (by decide)).mono ?_
  rintro e w4 ⟨rfl, h⟩
  rw [AW.out.2.2.1]
  have H3 : Aside (At w w.heap.size w4 j3 3) := ⟨h⟩
  clear h
  go_wp2_with fail
  refine (take_at _ 3 H3.out (Nat.le_refl _) (by decide)).mono ?_
  rintro e w5 ⟨rfl, h⟩
  rw [AW.out.2.2.2.1]
  have H4 : Aside (At w w.heap.size w5 j4 4) := ⟨h⟩
  clear h
  go_wp2_with fail
  refine (take_at _ 9 H4.out (Nat.le_refl _) (by decide)).mono ?_
  rintro e w6 ⟨rfl, h⟩
  rw [AW.out.2.2.2.2.1]
  have H5 : Aside (At w w.heap.size w6 j5 5) := ⟨h⟩
  clear h
  go_wp2_with fail
  refine (take_at _ 10 H5.out (Nat.le_refl _) (by decide)).mono ?_
  rintro e w7 ⟨rfl, h⟩
  rw [AW.out.2.2.2.2.2.1]
  have H6 : Aside (At w w.heap.size w7 j6 6) := ⟨h⟩
  clear h
  go_wp2_with fail
  refine (lost_calls _ j6.lost _ (H6.out.blk.cell 4)).mono ?_
  rintro e w' ⟨rfl, rfl⟩
  rw [AW.out.2.2.2.2.2.2.1]
  go_wp2_with fail
  refine (wrong_calls _ j6.wrong _ (H6.out.blk.cell 5)).mono ?_
  rintro e w' ⟨rfl, rfl⟩
  rw [AW.out.2.2.2.2.2.2.2]
  go_wp2
  go_ret
  exact ⟨rfl, H6.out.below⟩
end Go.Proofs.Ytdihndaphkibbaa
