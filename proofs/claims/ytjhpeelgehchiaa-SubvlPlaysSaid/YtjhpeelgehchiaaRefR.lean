/- What Push, Pop and Clear of the document's queues answer and leave. Conditions: its list lies in a row of its own; the texts read. -/
import Derived.Test.YtjhpeelgehchiaaRefQ
namespace Go.Proofs.Ytjhpeelgehchiaa
open Go.RowKit Go.Proofs.YtjhpeelgehchiaaW.PrintWords
set_option linter.unusedVariables false

theorem info55 : (Try.prog.info? 55).map (fun i => (i.zero, i.size, i.bytes)) = some (some (.agg #[.int .i64 0, .string ⟨#[]⟩]), 2, 24) := by kernel_rfl
theorem under48 : Try.prog.underlying 48 = some (.slice 55) := by kernel_rfl
theorem run_app55 (w : World) (ty : TypeId) (v : Value) (l : List Tx) (hown : QRow w 0 55 2 v l.length (prs l)) (a : Option Addr) (m c : Nat) (ys : List Tx) (hl : ys.length = m) (hs : SrcV w a (prs ys)) (hle : l.length + m ≤ 5000) :
    ∃ A' c' w', (Builtin.append_ #[48, 48] ty #[v, .slice a m c]).run Try.prog w = .ok (.slice A' (l ++ ys).length c') w' ∧ QRow w' 0 55 2 (.slice A' (l ++ ys).length c') (l ++ ys).length (prs (l ++ ys)) ∧ w.grownBy w' v.ownBlock ∧
      ((Value.slice A' (l ++ ys).length c').ownBlock = v.ownBlock ∨ ∃ b, (Value.slice A' (l ++ ys).length c').ownBlock = some b ∧ w.heap.size ≤ b) := by
  obtain ⟨i, hi, hz⟩ := Option.map_eq_some_iff.1 info55
  simp only [Prod.mk.injEq] at hz
  have := run_app w 48 55 ty i _ 2 24 under48 hi hz.1 hz.2.1 hz.2.2 rfl (by decide) (by decide) v l.length (prs l) hown a m c (prs ys) (by rw [prs_length, hl]) hs (prs_one ys) hle
  rw [List.length_append, hl, prs_append]
  exact this
theorem rpush_arg (h : Nat) (r : RS) (i : Int) (a : Option Addr) (m c : Nat) (w : World) (H : RHeld w h r) (hi : ¬ (0 ≤ i ∧ i < r.many)) : Calls Try.prog 17 #[.pointer (some ⟨h, 0, none⟩), .int .i64 i, .slice a m c] w fun e w' => e = .returned (.int .i64 1) ∧ w = w' := by
  obtain ⟨c1, c2, c3⟩ := H.nums
  clear H c2 c3
  by_cases h0 : i < 0
  · clear hi
    go_enter Try.func17, Try.ntmps17
    go_wp2
    go_ret
    exact ⟨rfl, rfl⟩
  have h1 : (r.many : Int) ≤ i := by omega
  clear hi
  go_enter Try.func17, Try.ntmps17
  go_wp2
  go_ret
  exact ⟨rfl, rfl⟩
set_option maxHeartbeats 1000000 in
theorem rpush_full (h : Nat) (r : RS) (j : Nat) (a : Option Addr) (m c : Nat) (w : World) (H : RHeld w h r) (hsz : r.l.length ≤ 5000) (hj : j < r.many) (hm : m ≤ 100) (hd : r.depth < cnt r.l j + m) : Calls Try.prog 17 #[.pointer (some ⟨h, 0, none⟩), .int .i64 j, .slice a m c] w fun e w' => e = .returned (.int .i64 22) ∧ Below w.heap.size w w' := by
  obtain ⟨c1, c2, c3⟩ := H.nums
  have HH := Aside.mk H
  have HS := Aside.mk hsz
  have hc := cnt_le r.l j
  have hjn : ¬ (j : Int) < 0 := by omega
  have hjm : ¬ (r.many : Int) ≤ j := by omega
  have hw : IntKind.i64.wrap ((cnt r.l j : Int) + (m : Int)) = (cnt r.l j : Int) + (m : Int) := IntWalk.i64_in _ (by omega)
  have hfd : decide ((r.depth : Int) < (cnt r.l j : Int) + (m : Int)) = true := decide_eq_true (by omega)
  have HU : Aside (Below w.heap.size w w) := ⟨Below.refl _ _⟩
  have HL : Aside (∀ n, Calls Try.prog 21 #[.pointer (some ⟨h, 0, none⟩), .int .i64 j] (w.drewN n) fun e w' => e = .returned (.int .i64 (cnt r.l j)) ∧ w' = w.drewN n) := ⟨fun n => by
    refine (rlen_calls h r j (w.drewN n) (HH.out.keep fun k hk _ => rfl) HS.out).mono ?_
    rintro e w' ⟨rfl, rfl⟩
    exact ⟨rfl, rfl⟩⟩
  clear H hsz c3 hc
  go_enter Try.func17, Try.ntmps17
  go_wp2_with fail
  go_quiet ((go_at_call 21; exact Calls.quiet_of_same (HL.out _)))
  go_wp2
  go_ret
  exact ⟨rfl, below_drewN HU.out _⟩
def RS.app (r : RS) (j : Nat) (ys : List ByteArray) : RS := { r with l := r.l ++ ys.map fun t => (j, t) }
theorem RS.app_app (r : RS) (j : Nat) (xs : List ByteArray) (x : ByteArray) : (r.app j xs).app j [x] = r.app j (xs ++ [x]) := by simp [RS.app]
def texts (m : Nat) (L : Nat → ByteArray) : List ByteArray := (List.range m).map L
theorem texts_succ (m : Nat) (L : Nat → ByteArray) : texts (m + 1) L = texts m L ++ [L m] := by simp [texts, List.range_succ]
theorem texts_length (m : Nat) (L : Nat → ByteArray) : (texts m L).length = m := by simp [texts]
theorem RS.app_length (r : RS) (j : Nat) (xs : List ByteArray) : (r.app j xs).l.length = r.l.length + xs.length := by simp [RS.app]
theorem RPost.trans {a b c : World} {h : Nat} {r r' : RS} (H : RPost a h r b) (K : RPost b h r' c) : RPost a h r' c := ⟨K.1, H.2.trans K.2⟩
theorem Turns.drewN {a b : World} {h : Nat} (t : Turns a b h) (n : Nat) : Turns a (b.drewN n) h := ⟨t.upon.drewN n, t.mine⟩
/-- One text goes behind the list. -/
theorem one_app {w : World} {h : Nat} {r : RS} (H : RHeld w h r) (hsz : r.l.length + 1 ≤ 5000) (j : Nat) (x : ByteArray) :
    ∃ A c A' c' w1, w.cell? ⟨h, 0, none⟩ = some (.slice A r.l.length c) ∧ (Builtin.append_ #[48, 48] 48 #[.slice A r.l.length c, .slice (some ⟨w.heap.size, 0, none⟩) 1 1]).run Try.prog (w.drew.alloc (.cells #[.int .i64 j, .string x] 55)) = .ok (.slice A' (r.l.length + 1) c') w1 ∧
      w1.cell? ⟨h, 0, none⟩ = some (.slice A r.l.length c) ∧ w1.frozen? ⟨h, 0, none⟩ = false ∧ RPost w h (r.app j [x]) (w1.setCell ⟨h, 0, none⟩ (.slice A' (r.l.length + 1) c')) := by
  obtain ⟨v, hb, hq⟩ := H
  obtain ⟨A, c, rfl, hc⟩ := q_slice hq
  have hb0 : Blk (w.drew.alloc (.cells #[.int .i64 j, .string x] 55)) h 50 _ := Blk.alloc (w := w.drew) hb _
  have hq0 : QRow (w.drew.alloc (.cells #[.int .i64 j, .string x] 55)) 0 55 2 (.slice A r.l.length c) r.l.length (prs r.l) := q_move hq fun k hk => heap_alloc_old w.drew _ (q_lt hq k hk)
  have hsrc : SrcV (w.drew.alloc (.cells #[.int .i64 j, .string x] 55)) (some ⟨w.heap.size, 0, none⟩) (prs [(j, x)]) := fun _ => ⟨_, rfl, by
    have := World.news_of_block (cs := #[.int .i64 j, .string x]) (t := 55) (fr := (0, 0)) (heap_alloc_new w.drew (.cells #[.int .i64 j, .string x] 55))
    simpa [prs] using this⟩
  obtain ⟨A', c', w1, happ, hq1, hg, hat⟩ := run_app55 _ 48 (.slice A r.l.length c) r.l hq0 (some ⟨w.heap.size, 0, none⟩) 1 1 [(j, x)] rfl hsrc hsz
  have hlen : (r.l ++ [(j, x)]).length = r.l.length + 1 := by simp
  rw [hlen] at happ hq1 hat
  have hne : (Value.slice A r.l.length c).ownBlock ≠ some h := rne hb hq
  have hb1 : Blk w1 h 50 _ := blk_grown hg hb0 hne
  refine ⟨A, c, A', c', w1, hb.cell 0, happ, hb1.cell 0, hb1.frozen 0, ?_⟩
  have hb2 := hb1.set 0 (.slice A' (r.l.length + 1) c')
  have hsz2 : (w.drew.alloc (.cells #[.int .i64 j, .string x] 55)).heap.size = w.heap.size + 1 := (by simp : (w.drew.alloc (.cells #[.int .i64 j, .string x] 55)).heap.size = w.drew.heap.size + 1)
  have hg2 : w.grownBy w1 (Value.slice A r.l.length c).ownBlock := ⟨hg.os, hg.tape, hg.output, by have := hg.size; omega, fun k hk hne => (hg.block k (by omega) hne).trans (heap_alloc_old w.drew _ hk)⟩
  have hput := rput hb hq hq1 hg2 (fun b hb => by
    rcases hat with h1 | ⟨b', h1, h2⟩
    · left; rw [← h1]; exact hb
    · right; rw [hb] at h1; injection h1 with h1; subst h1; omega) hb2 ((Upon.refl (· = h) w1).setg (g := h) rfl _ _)
  exact ⟨⟨_, hb2, by show QRow _ 0 55 2 _ (r.l ++ [(j, x)]).length (prs (r.l ++ [(j, x)])); rw [hlen]; exact hput.1⟩, hput.2⟩
set_option maxHeartbeats 2000000 in
theorem rpush_fits (h : Nat) (r : RS) (j : Nat) (a : Option Addr) (m c : Nat) (L : Nat → ByteArray) (w : World) (H : RHeld w h r) (hsz : r.l.length ≤ 4900) (hj : j < r.many) (hm : m ≤ 100) (hd : cnt r.l j + m ≤ r.depth) (hs : Txts w a m L) (hfar : 0 < m → ∀ ad, a = some ad → ¬ Mine w h ad.block) :
    Calls Try.prog 17 #[.pointer (some ⟨h, 0, none⟩), .int .i64 j, .slice a m c] w fun e w' => e = .returned (.int .i64 0) ∧ RPost w h (r.app j (texts m L)) w' := by
  obtain ⟨c1, c2, c3⟩ := H.nums
  have HH := Aside.mk H
  have HS := Aside.mk hsz
  have hc := cnt_le r.l j
  have hjn : ¬ (j : Int) < 0 := by omega
  have hjm : ¬ (r.many : Int) ≤ j := by omega
  have hw : IntKind.i64.wrap ((cnt r.l j : Int) + (m : Int)) = (cnt r.l j : Int) + (m : Int) := IntWalk.i64_in _ (by omega)
  have hfd : decide ((r.depth : Int) < (cnt r.l j : Int) + (m : Int)) = false := decide_eq_false (by omega)
  have HL : Aside (∀ n, Calls Try.prog 21 #[.pointer (some ⟨h, 0, none⟩), .int .i64 j] (w.drewN n) fun e w' => e = .returned (.int .i64 (cnt r.l j)) ∧ w' = w.drewN n) := ⟨fun n => by
    refine (rlen_calls h r j (w.drewN n) (HH.out.keep fun k hk _ => rfl) (by have := HS.out; omega)).mono ?_
    rintro e w' ⟨rfl, rfl⟩
    exact ⟨rfl, rfl⟩⟩
  have HT := Aside.mk hs
  have HF := Aside.mk hfar
  clear H hsz c3 hc hs hfar hd
  go_enter Try.func17, Try.ntmps17
  go_wp2_with fail
  go_quiet ((go_at_call 21; exact Calls.quiet_of_same (HL.out _)))
  generalize hWQ : w.drewN _ = wq
  have HP : Aside (RPost w h (r.app j (texts 0 L)) wq) := ⟨by rw [← hWQ]; exact ⟨by rw [show r.app j (texts 0 L) = r by simp [RS.app, texts]]; exact HH.out.keep fun k hk _ => rfl, (Turns.refl w h).drewN _⟩⟩
  clear hWQ HL c1 c2
  go_wp2_with fail
  go_loopw [7] (fun i wr => ∃ k : Nat, k ≤ m ∧ i = .int .i64 k ∧ Aside (RPost w h (r.app j (texts k L)) wr)) (fun i _ => m - (intOf i).toNat)
  case atStart => exact ⟨0, by omega, rfl, HP⟩
  case round =>
    clear HP
    obtain ⟨k, hk, rfl, HP⟩ := hrel
    by_cases hlt : k < m
    · obtain ⟨b, off, ha, hx⟩ := HT.out k hlt
      subst ha
      have hx' : wr.cell? ⟨b, off + k, none⟩ = some (.string (L k)) := HP.out.2.upon.cell hx (by exact HF.out (by omega) ⟨b, off, none⟩ rfl)
      have hk0 : (0 : Int) ≤ k := by omega
      have hk1 : (k : Int) < m := by omega
      have hwk : IntKind.i64.wrap ((k : Int) + 1) = (k : Int) + 1 := IntWalk.i64_in _ (by omega)
      obtain ⟨A, c, A', c', w1, h0, happ, h1, hf, hpost⟩ := one_app HP.out.1 (by rw [RS.app_length, texts_length]; have := HS.out; omega) j (L k)
      have h2 : (wr.alloc (.cells #[.int .i64 j, .string (L k)] 55)).cell? ⟨h, 0, none⟩ = some (.slice A (r.app j (texts k L)).l.length c) := (World.cell?_of_block (w := wr) (heap_alloc_old wr _ (HP.out.1.owns h (.inl rfl)))).trans h0
      have HP2 := Aside.mk (HP.out.trans hpost)
      rw [RS.app_app, ← texts_succ] at HP2
      clear hpost hx
      generalize (r.app j (texts k L)).l.length = n at *
      generalize L k = x at *
      go_wp2_with fail
      go_region_law ((refine step_run (by rfl) _ _ 48 (by rfl) _ _ (by rfl) (by rfl) _ _ (by exact happ) ?_))
      all_goals
        go_wp2
        exact ⟨⟨k + 1, by omega, by simp, HP2⟩, by simp [intOf]; omega⟩
    · have hk1 : ¬ (k : Int) < m := by omega
      have : k = m := by omega
      subst this
      go_wp2
      go_ret
      exact ⟨rfl, HP.out⟩
end Go.Proofs.Ytjhpeelgehchiaa
