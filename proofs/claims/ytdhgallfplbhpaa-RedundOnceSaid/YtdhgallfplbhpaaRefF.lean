/- What New, Reset and forget of the document's filter answer and leave. Conditions: the filter lies; its frames came before. -/
import Derived.Test.YtdhgallfplbhpaaAwk
namespace Go.Proofs.Ytdhgallfplbhpaa
open Go.RowKit Go.Proofs.YtdhgallfplbhpaaW.PrintWords
set_option linter.unusedVariables false

def Fr.onA (f : Fr) : Bool := decide (f.nets = 1 ∨ f.nets = 3)
def Fr.onB (f : Fr) : Bool := decide (f.nets = 2 ∨ f.nets = 3)
def KR : Kd where
  T := 50
  E := 62
  S := 48
  sz := 4
  bytes := 24
  enc f := [.int .i64 f.seq, .int .i64 f.tick, .bool f.onA, .bool f.onB]
  zero := .agg #[.int .i64 0, .int .i64 0, .bool false, .bool false]
  len _ := rfl
  one f u h := by simp at h; rcases h with rfl | rfl | rfl | rfl <;> rfl
  ne := by decide
  pos := by decide
  under := by kernel_rfl
  info := by kernel_rfl
  zsz := rfl
  small := by decide
theorem rnew_ok (k : Int) (w : World) (h : 0 ≤ k ∧ k ≤ 1073741824) :
    Calls Try.prog 17 #[.int .i64 k] w fun e w' => e = .returned (.tuple #[.pointer (some ⟨w.heap.size, 0, none⟩), .int .i64 0]) ∧ Held KR w' w.heap.size (FS.fresh k) ∧ (∀ j, Mine w' w.heap.size j → j = w.heap.size) ∧ Below w.heap.size w w' := by
  have h1 : ¬ k < 0 := by omega
  have h2 : ¬ 1073741824 < k := by omega
  clear h
  go_enter Try.func17, Try.ntmps17
  go_wp2
  go_ret2
  have hb : Blk (w.alloc (.cells ((FS.fresh k).cells (.slice none 0 0)) 50)) w.heap.size 50 ((FS.fresh k).cells (.slice none 0 0)) := Blk.new _ _ _
  refine ⟨rfl, ⟨_, hb, q_of_own (own_nil _ 0 62 4)⟩, fun j hj => ?_, (Below.refl _ _).alloc (Nat.le_refl _) _⟩
  rcases (mine_of hb).1 hj with h | h
  · exact h
  · simp [Value.ownBlock] at h
theorem rnew_no (k : Int) (w : World) (h : ¬ (0 ≤ k ∧ k ≤ 1073741824)) : Calls Try.prog 17 #[.int .i64 k] w fun e w' => e = .returned (.tuple #[.pointer none, .int .i64 1]) ∧ w = w' := by
  have key : k < 0 ∨ (¬ k < 0 ∧ 1073741824 < k) := by omega
  clear h
  rcases key with h | ⟨h1, h⟩
  all_goals
    go_enter Try.func17, Try.ntmps17
    go_wp2
    go_ret2
    exact ⟨rfl, rfl⟩
theorem rreset_calls (g : Nat) (s : FS) (w : World) (H : Held KR w g s) : Calls Try.prog 19 #[.pointer (some ⟨g, 0, none⟩)] w fun e w' => e = .returned (.tuple #[]) ∧ PutPost KR w g s.reset w' := by
  obtain ⟨v, hb, hq⟩ := H
  have c0 : w.cell? ⟨g, 0, none⟩ = some v := hb.cell 0
  have f0 := hb.frozen 0
  have HB := Aside.mk hb
  have HQ := Aside.mk hq
  clear hb hq
  go_enter Try.func19, Try.ntmps19
  go_wp2
  go_end0
  exact ⟨rfl, put HB.out HQ.out (s' := s.reset) (w1 := w) (q_of_own (own_nil w 0 62 4)) ⟨rfl, rfl, rfl, Nat.le_refl _, fun _ _ _ => rfl⟩ (fun b hb => by simp [Value.ownBlock] at hb) (HB.out.set 0 (.slice none 0 0)) ((Upon.refl (· = g) w).setg (g := g) rfl _ _)⟩
/-- A row of one's own that has been made since. -/
structure Row (K : Kd) (w0 w : World) (v : Value) (l : List Fr) : Prop where
  below : Below w0.heap.size w0 w
  q : QRow w 0 K.E K.sz v l.length (K.encs l)
  own : ∀ b, v.ownBlock = some b → w0.heap.size ≤ b
theorem Row.nil (K : Kd) (w : World) : Row K w w (.slice none 0 0) [] := ⟨Below.refl _ _, q_of_own (own_nil w 0 K.E K.sz), fun b hb => by simp [Value.ownBlock] at hb⟩
theorem Row.drewN {K : Kd} {w0 w : World} {v : Value} {l : List Fr} (h : Row K w0 w v l) (n : Nat) : Row K w0 (w.drewN n) v l := ⟨below_drewN h.below n, q_move h.q fun k hk => rfl, h.own⟩
theorem Row.app {K : Kd} {w0 w : World} {v : Value} {l : List Fr} (h : Row K w0 w v l) (f : Fr) (hsz : l.length + 1 ≤ 5000) :
    ∃ A c A' c' w1, v = .slice A l.length c ∧ (Builtin.append_ #[K.S, K.S] K.S #[.slice A l.length c, .slice (some ⟨w.heap.size, 0, none⟩) 1 1]).run Try.prog (w.alloc (.cells (K.enc f).toArray K.E)) = .ok (.slice A' (l.length + 1) c') w1 ∧
      Row K w0 w1 (.slice A' (l.length + 1) c') (l ++ [f]) := by
  obtain ⟨i, hi, hz⟩ := Option.map_eq_some_iff.1 K.info
  simp only [Prod.mk.injEq] at hz
  obtain ⟨A, c, rfl, hc⟩ := q_slice h.q
  have hq0 : QRow (w.alloc (.cells (K.enc f).toArray K.E)) 0 K.E K.sz (.slice A l.length c) l.length (K.encs l) := q_move h.q fun k hk => heap_alloc_old w _ (q_lt h.q k hk)
  have hsrc : SrcV (w.alloc (.cells (K.enc f).toArray K.E)) (some ⟨w.heap.size, 0, none⟩) (K.encs [f]) := fun _ => ⟨_, rfl, by
    have := World.news_of_block (cs := (K.enc f).toArray) (t := K.E) (fr := (0, 0)) (heap_alloc_new w (.cells (K.enc f).toArray K.E))
    simpa [Kd.encs] using this⟩
  obtain ⟨A', c', w1, happ, hq1, hg, hat⟩ := run_app _ K.S K.E K.S i K.zero K.sz K.bytes K.under hi hz.1 hz.2.1 hz.2.2 K.zsz K.pos K.small (.slice A l.length c) l.length (K.encs l) hq0 (some ⟨w.heap.size, 0, none⟩) 1 1 (K.encs [f]) (by rw [encs_length]; rfl) hsrc (encs_one _) hsz
  have hlen : (l ++ [f]).length = l.length + 1 := by simp
  have hsz2 : (w.alloc (.cells (K.enc f).toArray K.E)).heap.size = w.heap.size + 1 := by simp
  have hb0 : Below w0.heap.size w0 (w.alloc (.cells (K.enc f).toArray K.E)) := h.below.alloc h.below.size _
  refine ⟨A, c, A', c', w1, rfl, happ, ⟨⟨hg.os.trans hb0.os, hg.tape.trans hb0.tape, hg.output.trans hb0.output, Nat.le_trans hb0.size hg.size, fun k hk => ?_⟩, by rw [hlen, encs_append]; exact hq1, fun b hb => ?_⟩⟩
  · rw [← hb0.block k hk]
    refine hg.block k (Nat.lt_of_lt_of_le hk hb0.size) fun e => ?_
    have := h.own k e.symm
    omega
  · rcases hat with h1 | ⟨b', h1, h2⟩
    · rw [hb] at h1; exact h.own b h1.symm
    · rw [hb] at h1; injection h1 with h1; subst h1; have := h.below.size; omega
def FS.keeps (s : FS) (now : Int) (f : Fr) : Bool := decide (now - f.tick ≤ s.skew)
theorem filter_take {α : Type} (p : α → Bool) {l : List α} {k : Nat} {x : α} (h : l[k]? = some x) : (l.take (k + 1)).filter p = (l.take k).filter p ++ (if p x then [x] else []) := by
  rw [List.take_add_one, h, List.filter_append]
  congr 1
  cases hp : p x <;> simp [hp]
/-- So many frames have been looked at. -/
def RfRel (w : World) (s : FS) (now : Int) (k : Nat) (v : Value) (wr : World) : Prop := Row KR w wr v ((s.l.take k).filter (s.keeps now))
set_option maxHeartbeats 4000000 in
theorem rforget_calls (g : Nat) (s : FS) (now : Int) (w : World) (H : Held KR w g s) (hn : 0 ≤ now ∧ now ≤ 1125899906842624) (ht : ∀ f ∈ s.l, 0 ≤ f.tick ∧ f.tick ≤ 1125899906842624) (hsz : s.l.length ≤ 300) :
    Calls Try.prog 26 #[.pointer (some ⟨g, 0, none⟩), .int .i64 now] w fun e w' => e = .returned (.tuple #[]) ∧ PutPost KR w g { s with l := s.l.filter (s.keeps now), now := now } w' := by
  have HH := Aside.mk H
  have hlt := H.lt
  have HN := Aside.mk hn
  have HT := Aside.mk ht
  have HP : Aside (RfRel w s now 0 (.slice none 0 0) w) := ⟨Row.nil KR w⟩
  clear H hn ht
  go_enter Try.func26, Try.ntmps26
  go_wp2_with fail
  go_loopw [4, 5] (fun o i wr => ∃ k : Nat, k ≤ s.l.length ∧ i = .int .i64 k ∧ Aside (RfRel w s now k o wr)) (fun o i _ => s.l.length - (intOf i).toNat)
  case atStart => exact ⟨0, by omega, rfl, HP⟩
  case round =>
    clear HP
    obtain ⟨k, hk, rfl, HP⟩ := hrel
    by_cases hlt : k < s.l.length
    · have hf := List.getElem?_eq_getElem hlt
      obtain ⟨b, off, c, h0, hnc, hr⟩ := HH.out.reads (by omega)
      have h0' := below_cell HP.out.below h0
      have x0 := below_cell HP.out.below (hr k _ hf 0 _ (by decide) rfl)
      have x1 := below_cell HP.out.below (hr k _ hf 1 _ (by decide) rfl)
      have x2 := below_cell HP.out.below (hr k _ hf 2 _ (by decide) rfl)
      have x3 := below_cell HP.out.below (hr k _ hf 3 _ (by decide) rfl)
      have d1 := below_cell HP.out.below HH.out.c1
      have htk := HT.out _ (List.getElem_mem hlt)
      have hn := HN.out
      have HF := Aside.mk hf
      have hk0 : (0 : Int) ≤ k := by omega
      have hk1 : (k : Int) < s.l.length := by omega
      have hwk : IntKind.i64.wrap ((k : Int) + 1) = (k : Int) + 1 := IntWalk.i64_in _ (by omega)
      generalize s.l[k] = f at *
      change wr.cell? ⟨b, off + k * 4, none⟩ = some (.int .i64 f.seq) at x0
      change wr.cell? ⟨b, off + k * 4 + 1, none⟩ = some (.int .i64 f.tick) at x1
      change wr.cell? ⟨b, off + k * 4 + 2, none⟩ = some (.bool f.onA) at x2
      change wr.cell? ⟨b, off + k * 4 + 3, none⟩ = some (.bool f.onB) at x3
      have hw : IntKind.i64.wrap (now - f.tick) = now - f.tick := IntWalk.i64_in _ (by omega)
      clear hf h0 hr
      by_cases hl : now - f.tick ≤ s.skew
      · have hkp : s.keeps now f = true := decide_eq_true hl
        have hft := filter_take (s.keeps now) HF.out
        rw [if_pos hkp] at hft
        have HFT := Aside.mk hft
        have HKP := Aside.mk hkp
        clear hft hkp
        go_wp2_with fail
        go_quiet (fail)
        have HP2 : Aside (Row KR w (wr.drewN nq) u4 ((s.l.take k).filter (s.keeps now))) := ⟨HP.out.drewN nq⟩
        obtain ⟨A, c2, A', c3, w5, hv, happ, hrow⟩ := HP2.out.app f (by have := List.length_filter_le (s.keeps now) (s.l.take k); rw [List.length_take] at this; omega)
        rw [← HFT.out] at hrow
        have HROW : Aside (RfRel w s now (k + 1) (.slice A' (((s.l.take k).filter (s.keeps now)).length + 1) c3) w5) := ⟨hrow⟩
        generalize ((s.l.take k).filter (s.keeps now)).length = n at *
        have happ2 : (Builtin.append_ #[48, 48] 48 #[.slice A n c2, .slice (some ⟨(wr.drewN nq).heap.size, 0, none⟩) 1 1]).run Try.prog ((wr.drewN nq).alloc (.cells #[.int .i64 f.seq, .int .i64 f.tick, .bool f.onA, .bool f.onB] 62)) = .ok (.slice A' (n + 1) c3) w5 := happ
        subst hv
        clear happ hrow
        go_wp2_with (at_builtin; refine Go.Lib.wpList_append_run _ rfl _ _ _ _ rfl _ _ rfl rfl _ _ happ2 ?_)
        exact ⟨⟨k + 1, by omega, by simp, HROW⟩, by simp [intOf]; omega⟩
      · have hkp : s.keeps now f = false := decide_eq_false hl
        have hft := filter_take (s.keeps now) HF.out
        rw [hkp] at hft
        have HN2 : Aside (∀ n, RfRel w s now (k + 1) u4 (wr.drewN n)) := ⟨fun n => by
          unfold RfRel
          rw [hft]
          simpa using HP.out.drewN n⟩
        clear hft hkp
        go_wp2_with fail
        go_quiet (fail)
        go_wp2
        exact ⟨⟨k + 1, by omega, by simp, ⟨HN2.out nq⟩⟩, by simp [intOf]; omega⟩
    · obtain ⟨A, c, h0, _⟩ := HH.out.slice
      have h0' := below_cell HP.out.below h0
      have hk1 : ¬ (k : Int) < s.l.length := by omega
      have hkn : k = s.l.length := by omega
      have HH1 := Aside.mk (HH.out.below HP.out.below)
      have f0 := HH1.out.1.frozen 0
      have f2 := HH1.out.1.frozen 2
      have d2 := HH1.out.1.c2
      have HQ : Aside (Row KR w wr u4 (s.l.filter (s.keeps now))) := ⟨by
        have := HP.out
        unfold RfRel at this
        rw [hkn, List.take_length] at this
        exact this⟩
      clear h0
      subst hkn
      obtain ⟨A2, n2, hv, _⟩ := q_slice HQ.out.q
      have HV := Aside.mk hv
      subst hv
      go_wp2
      go_end0
      obtain ⟨v, hb, hq⟩ := HH.out
      have hbr : Blk wr g 50 _ := (HQ.out.below.block g hb.lt).trans hb
      exact ⟨rfl, put hb hq (s' := { s with l := s.l.filter (s.keeps now), now := now }) (w1 := wr) HQ.out.q ⟨HQ.out.below.os, HQ.out.below.tape, HQ.out.below.output, HQ.out.below.size, fun k hk _ => HQ.out.below.block k hk⟩ (fun b hb => .inr (HQ.out.own b hb))
        ((hbr.set 0 (.slice A2 _ n2)).set 2 (.int .i64 now)) (((Upon.refl (· = g) wr).setg (g := g) rfl _ _).setg (g := g) rfl _ _)⟩
end Go.Proofs.Ytdhgallfplbhpaa
