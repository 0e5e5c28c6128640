/- into: a frame that comes goes into a row by ticks. Conditions: the row lies. -/
import Derived.Test.YtdhgallfplbhpaaOnp
import Derived.Test.YtdhgallfplbhpaaRefF
namespace Go.Proofs.Ytdhgallfplbhpaa
open Go.RowKit Go.Proofs.YtdhgallfplbhpaaW.PrintWords
set_option linter.unusedVariables false

/-- Rows of frames that come: tick, network, index. -/
def KC : Kd where
  T := 50
  E := 36
  S := 30
  sz := 3
  bytes := 24
  enc f := [.int .i64 f.tick, .int .i64 f.seq, .int .i64 f.nets]
  zero := .agg #[.int .i64 0, .int .i64 0, .int .i64 0]
  len _ := rfl
  one f u h := by simp at h; rcases h with rfl | rfl | rfl <;> rfl
  ne := by decide
  pos := by decide
  under := by kernel_rfl
  info := by kernel_rfl
  zsz := rfl
  small := by decide
/-- Rows of numbers. -/
def KS : Kd where
  T := 50
  E := 3
  S := 31
  sz := 1
  bytes := 8
  enc f := [.int .i64 f.seq]
  zero := .int .i64 0
  len _ := rfl
  one f u h := by simp at h; subst h; rfl
  ne := by decide
  pos := by decide
  under := by kernel_rfl
  info := by kernel_rfl
  zsz := rfl
  small := by decide
theorem Row.app2 {K : Kd} {w0 w : World} {v : Value} {l : List Fr} (h : Row K w0 w v l) (f : Fr) (hsz : l.length + 1 ≤ 5000) :
    ∃ A c A' c' w1, v = .slice A l.length c ∧ (Builtin.append_ #[K.S, K.S] K.S #[.slice A l.length c, .slice (some ⟨w.heap.size, 0, none⟩) 1 1]).run Try.prog (w.alloc (.cells (K.enc f).toArray K.E)) = .ok (.slice A' (l.length + 1) c') w1 ∧
      Row K w0 w1 (.slice A' (l.length + 1) c') (l ++ [f]) ∧ ∀ k, k < w.heap.size → v.ownBlock ≠ some k → w1.heap[k]? = w.heap[k]? := by
  obtain ⟨i, hi, hz⟩ := Option.map_eq_some_iff.1 K.info
  simp only [Prod.mk.injEq] at hz
  obtain ⟨A, c, rfl, hc⟩ := q_slice h.q
  have hq0 : QRow (w.alloc (.cells (K.enc f).toArray K.E)) 0 K.E K.sz (.slice A l.length c) l.length (K.encs l) := q_move h.q fun k hk => heap_alloc_old w _ (q_lt h.q k hk)
  have hsrc : SrcV (w.alloc (.cells (K.enc f).toArray K.E)) (some ⟨w.heap.size, 0, none⟩) (K.encs [f]) := fun _ => ⟨_, rfl, by
    have := World.news_of_block (cs := (K.enc f).toArray) (t := K.E) (fr := (0, 0)) (heap_alloc_new w (.cells (K.enc f).toArray K.E))
    simpa [Kd.encs] using this⟩
  obtain ⟨A', c', w1, happ, hq1, hg, hat⟩ := run_app _ K.S K.E K.S i K.zero K.sz K.bytes K.under hi hz.1 hz.2.1 hz.2.2 K.zsz K.pos K.small (.slice A l.length c) l.length (K.encs l) hq0 (some ⟨w.heap.size, 0, none⟩) 1 1 (K.encs [f]) (by rw [encs_length]; rfl) hsrc (encs_one _) hsz
  have hlen : (l ++ [f]).length = l.length + 1 := by simp
  have hsz2 : (w.alloc (.cells (K.enc f).toArray K.E)).heap.size = w.heap.size + 1 := by simp
  have hb0 : Below w0.heap.size w0 (w.alloc (.cells (K.enc f).toArray K.E)) := h.below.alloc h.below.size _
  refine ⟨A, c, A', c', w1, rfl, happ, ⟨⟨hg.os.trans hb0.os, hg.tape.trans hb0.tape, hg.output.trans hb0.output, Nat.le_trans hb0.size hg.size, fun k hk => ?_⟩, by rw [hlen, encs_append]; exact hq1, fun b hb => ?_⟩, fun k hk hne => ?_⟩
  · rw [← hb0.block k hk]
    refine hg.block k (Nat.lt_of_lt_of_le hk hb0.size) fun e => ?_
    have := h.own k e.symm
    omega
  · rcases hat with h1 | ⟨b', h1, h2⟩
    · rw [hb] at h1; exact h.own b h1.symm
    · rw [hb] at h1; injection h1 with h1; subst h1; have := h.below.size; omega
  · exact (hg.block k (by omega) (fun e => hne e.symm)).trans (heap_alloc_old w _ hk)
theorem ins_none {x : Fr} : ∀ {l : List Fr}, (∀ f ∈ l, ¬ x.tick < f.tick) → ins x l = l ++ [x]
  | [], _ => rfl
  | f :: l, h => by
    unfold ins
    rw [if_neg (h f (by simp)), ins_none fun f' hf' => h f' (by simp [hf'])]
    rfl
theorem ins_at {x : Fr} : ∀ {l : List Fr} {k : Nat} {f : Fr}, l[k]? = some f → x.tick < f.tick → (∀ f ∈ l.take k, ¬ x.tick < f.tick) → ins x l = l.take k ++ x :: l.drop k
  | [], k, f, h, _, _ => by simp at h
  | q :: l, 0, f, h, h1, _ => by
    simp at h
    subst h
    unfold ins
    rw [if_pos h1]
    rfl
  | q :: l, k + 1, f, h, h1, h2 => by
    simp only [List.getElem?_cons_succ] at h
    unfold ins
    rw [if_neg (h2 q (by simp)), ins_at h h1 fun f' hf' => h2 f' (by simp [hf'])]
    rfl
theorem ins_length (x : Fr) : ∀ l : List Fr, (ins x l).length = l.length + 1
  | [] => rfl
  | f :: l => by
    unfold ins
    split
    · rfl
    · simp [ins_length x l]
/-- How far a row has been copied. -/
def InRel (x : Fr) (l l' : List Fr) (k : Nat) (d : Bool) : Prop := (d = false ∧ l' = l.take k ∧ ∀ f ∈ l.take k, ¬ x.tick < f.tick) ∨ (d = true ∧ l' ++ l.drop k = ins x l)
theorem InRel.len {x : Fr} {l l' : List Fr} {k : Nat} {d : Bool} (h : InRel x l l' k d) : l'.length ≤ l.length + 1 := by
  rcases h with ⟨_, h, _⟩ | ⟨_, h⟩
  · rw [h, List.length_take]; omega
  · have := ins_length x l
    rw [← h, List.length_append] at this
    omega
theorem drop_at {α : Type} {l : List α} {k : Nat} {f : α} (h : l[k]? = some f) : l.drop k = f :: l.drop (k + 1) := by
  obtain ⟨h1, h2⟩ := List.getElem?_eq_some_iff.1 h
  rw [List.drop_eq_getElem_cons h1, h2]
theorem take_at {α : Type} {l : List α} {k : Nat} {f : α} (h : l[k]? = some f) : l.take (k + 1) = l.take k ++ [f] := by rw [List.take_add_one, h]; rfl
theorem InRel.pass {x : Fr} {l l' : List Fr} {k : Nat} {f : Fr} (h : InRel x l l' k false) (hf : l[k]? = some f) (hn : ¬ x.tick < f.tick) : InRel x l (l' ++ [f]) (k + 1) false := by
  rcases h with ⟨_, h, h2⟩ | ⟨h, _⟩
  · refine .inl ⟨rfl, by rw [take_at hf, h], fun f' hf' => ?_⟩
    rw [take_at hf] at hf'
    rcases List.mem_append.1 hf' with h3 | h3
    · exact h2 f' h3
    · simp at h3; subst h3; exact hn
  · cases h
theorem InRel.put {x : Fr} {l l' : List Fr} {k : Nat} {f : Fr} (h : InRel x l l' k false) (hf : l[k]? = some f) (hn : x.tick < f.tick) : InRel x l (l' ++ [x] ++ [f]) (k + 1) true := by
  rcases h with ⟨_, h, h2⟩ | ⟨h, _⟩
  · refine .inr ⟨rfl, ?_⟩
    rw [ins_at hf hn h2, h, drop_at hf]
    simp
  · cases h
theorem InRel.after {x : Fr} {l l' : List Fr} {k : Nat} {f : Fr} (h : InRel x l l' k true) (hf : l[k]? = some f) : InRel x l (l' ++ [f]) (k + 1) true := by
  rcases h with ⟨h, _⟩ | ⟨_, h⟩
  · cases h
  · refine .inr ⟨rfl, ?_⟩
    rw [← h, drop_at hf]
    simp
/-- What into answers and leaves. -/
def IntoPost (w : World) (l : List Fr) (e : Ending) (w' : World) : Prop := ∃ v', e = .returned v' ∧ Row KC w w' v' l
theorem Row.since {w w1 w2 : World} {v : Value} {l : List Fr} (h : Row KC w1 w2 v l) (hb : Below w.heap.size w w1) : Row KC w w2 v l :=
  ⟨below_then hb hb.size h.below, h.q, fun b hv => Nat.le_trans hb.size (h.own b hv)⟩
set_option maxHeartbeats 8000000 in
theorem into_calls (A : Option Addr) (c : Nat) (l : List Fr) (x : Fr) (w : World) (hq : QRow w 0 36 3 (.slice A l.length c) l.length (KC.encs l)) (hsz : l.length ≤ 1000) :
    Calls Try.prog 12 #[.slice A l.length c, .agg #[.int .i64 x.tick, .int .i64 x.seq, .int .i64 x.nets]] w fun e w' => IntoPost w (ins x l) e w' := by
  have HQ := Aside.mk hq
  obtain ⟨w1, hw1⟩ : ∃ w1, w1 = w.alloc (.cells #[.int .i64 x.tick, .int .i64 x.seq, .int .i64 x.nets] 36) := ⟨_, rfl⟩
  have HW1 : Aside (Below w.heap.size w w1) := ⟨by rw [hw1]; exact (Below.refl _ _).alloc (Nat.le_refl _) _⟩
  have HBX : Aside (Blk w1 w.heap.size 36 #[.int .i64 x.tick, .int .i64 x.seq, .int .i64 x.nets]) := ⟨by rw [hw1]; exact Blk.new _ _ _⟩
  have HSZ : Aside (w1.heap.size = w.heap.size + 1) := ⟨by rw [hw1]; simp⟩
  clear hq
  go_enter Try.func12, Try.ntmps12
  go_wp2_with fail
  rw [← hw1]
  have HR0 : Aside (Row KC w1 w1 (.slice none 0 0) [] ∧ InRel x l [] 0 false) := ⟨Row.nil KC w1, .inl ⟨rfl, rfl, fun f hf => by simp at hf⟩⟩
  go_loopw [5, 6, 7] (fun o d i wr => ∃ (k : Nat) (l' : List Fr) (dd : Bool), k ≤ l.length ∧ i = .int .i64 k ∧ d = .bool dd ∧ Aside (Row KC w1 wr o l' ∧ InRel x l l' k dd)) (fun o d i _ => l.length - (intOf i).toNat)
  case atStart => exact ⟨0, [], false, by omega, rfl, rfl, HR0⟩
  case round =>
    clear HR0
    obtain ⟨k, l', dd, hk, rfl, rfl, HR⟩ := hrel
    have HBR : Aside (Blk wr w.heap.size 36 #[.int .i64 x.tick, .int .i64 x.seq, .int .i64 x.nets]) := ⟨(HR.out.1.below.block _ (by rw [HSZ.out]; omega)).trans HBX.out⟩
    have HBW := Aside.mk (below_then HW1.out HW1.out.size HR.out.1.below)
    have y0 : wr.cell? ⟨w.heap.size, 0, none⟩ = some (.int .i64 x.tick) := HBR.out.cell 0
    have y1 : wr.cell? ⟨w.heap.size, 1, none⟩ = some (.int .i64 x.seq) := HBR.out.cell 1
    have y2 : wr.cell? ⟨w.heap.size, 2, none⟩ = some (.int .i64 x.nets) := HBR.out.cell 2
    by_cases hlt : k < l.length
    · have hf := List.getElem?_eq_getElem hlt
      obtain ⟨b, off, cc, hv0, _, hr⟩ := q_form HQ.out (by omega)
      injection hv0 with hv0 _ hcc
      subst hcc
      subst hv0
      have xx0 : w.cell? ⟨b, off + k * 3, none⟩ = some (.int .i64 (l[k]).tick) := hr (k * 3) _ (encs_get (K := KC) l k _ hf 0 (by decide))
      have xx1 : w.cell? ⟨b, off + k * 3 + 1, none⟩ = some (.int .i64 (l[k]).seq) := by rw [Nat.add_assoc]; exact hr (k * 3 + 1) _ (encs_get (K := KC) l k _ hf 1 (by decide))
      have xx2 : w.cell? ⟨b, off + k * 3 + 2, none⟩ = some (.int .i64 (l[k]).nets) := by rw [Nat.add_assoc]; exact hr (k * 3 + 2) _ (encs_get (K := KC) l k _ hf 2 (by decide))
      have HF := Aside.mk hf
      have hk0 : (0 : Int) ≤ k := by omega
      have hk1 : (k : Int) < l.length := by omega
      have hwk : IntKind.i64.wrap ((k : Int) + 1) = (k : Int) + 1 := IntWalk.i64_in _ (by omega)
      generalize l[k] = f at *
      have X0 := Aside.mk xx0
      have X1 := Aside.mk xx1
      have X2 := Aside.mk xx2
      have x0 := below_cell HBW.out xx0
      have x1 := below_cell HBW.out xx1
      have x2 := below_cell HBW.out xx2
      clear hf hr xx0 xx1 xx2
      cases dd with
      | true =>
        go_wp2_with fail
        go_quiet (fail)
        obtain ⟨A0, c0, A', c', w5, hv, happ, hrow, _⟩ := (HR.out.1.drewN nq).app2 f (by have := HR.out.2.len; omega)
        have happ2 : (Builtin.append_ #[30, 30] 30 #[.slice A0 l'.length c0, .slice (some ⟨(wr.drewN nq).heap.size, 0, none⟩) 1 1]).run Try.prog ((wr.drewN nq).alloc (.cells #[.int .i64 f.tick, .int .i64 f.seq, .int .i64 f.nets] 36)) = .ok (.slice A' (l'.length + 1) c') w5 := happ
        subst hv
        have HN : Aside (Row KC w1 w5 (.slice A' (l'.length + 1) c') (l' ++ [f]) ∧ InRel x l (l' ++ [f]) (k + 1) true) := ⟨hrow, HR.out.2.after HF.out⟩
        clear happ hrow
        go_wp2_with (at_builtin; refine Go.Lib.wpList_append_run _ rfl _ _ _ _ rfl _ _ rfl rfl _ _ happ2 ?_)
        exact ⟨⟨k + 1, _, true, by omega, by simp, rfl, HN⟩, by simp [intOf]; omega⟩
      | false =>
        by_cases hl : x.tick < f.tick
        · have hd : decide (x.tick < f.tick) = true := decide_eq_true hl
          have HL := Aside.mk hl
          go_wp2_with fail
          go_quiet (fail)
          obtain ⟨A0, c0, A1, c1, w5, hv, happ, hrow, _⟩ := (HR.out.1.drewN nq).app2 x (by have := HR.out.2.len; omega)
          have happ2 : (Builtin.append_ #[30, 30] 30 #[.slice A0 l'.length c0, .slice (some ⟨(wr.drewN nq).heap.size, 0, none⟩) 1 1]).run Try.prog ((wr.drewN nq).alloc (.cells #[.int .i64 x.tick, .int .i64 x.seq, .int .i64 x.nets] 36)) = .ok (.slice A1 (l'.length + 1) c1) w5 := happ
          subst hv
          have HR5 := Aside.mk hrow
          have hl5 : (l' ++ [x]).length = l'.length + 1 := by simp
          have HBW5 := Aside.mk (below_then HW1.out HW1.out.size HR5.out.below)
          have z0 := below_cell HBW5.out X0.out
          have z1 := below_cell HBW5.out X1.out
          have z2 := below_cell HBW5.out X2.out
          obtain ⟨A3, c3, A', c', w6, hv, happ3, hrow3, _⟩ := HR5.out.app2 f (by have := HR.out.2.len; rw [hl5]; omega)
          injection hv with e1 e2 e3
          subst e1; subst e3
          rw [hl5] at happ3 hrow3
          have happ4 : (Builtin.append_ #[30, 30] 30 #[.slice A1 (l'.length + 1) c1, .slice (some ⟨w5.heap.size, 0, none⟩) 1 1]).run Try.prog (w5.alloc (.cells #[.int .i64 f.tick, .int .i64 f.seq, .int .i64 f.nets] 36)) = .ok (.slice A' (l'.length + 1 + 1) c') w6 := happ3
          have HN : Aside (Row KC w1 w6 (.slice A' (l'.length + 1 + 1) c') (l' ++ [x] ++ [f]) ∧ InRel x l (l' ++ [x] ++ [f]) (k + 1) true) := ⟨hrow3, HR.out.2.put HF.out HL.out⟩
          clear happ hrow happ3 hrow3 e2 hl5
          go_wp2_with (at_builtin; first | refine Go.Lib.wpList_append_run _ rfl _ _ _ _ rfl _ _ rfl rfl _ _ happ2 ?_ | refine Go.Lib.wpList_append_run _ rfl _ _ _ _ rfl _ _ rfl rfl _ _ happ4 ?_)
          exact ⟨⟨k + 1, _, true, by omega, by simp, rfl, HN⟩, by simp [intOf]; omega⟩
        · have hd : decide (x.tick < f.tick) = false := decide_eq_false hl
          have HL := Aside.mk hl
          go_wp2_with fail
          go_quiet (fail)
          obtain ⟨A0, c0, A', c', w5, hv, happ, hrow, _⟩ := (HR.out.1.drewN nq).app2 f (by have := HR.out.2.len; omega)
          have happ2 : (Builtin.append_ #[30, 30] 30 #[.slice A0 l'.length c0, .slice (some ⟨(wr.drewN nq).heap.size, 0, none⟩) 1 1]).run Try.prog ((wr.drewN nq).alloc (.cells #[.int .i64 f.tick, .int .i64 f.seq, .int .i64 f.nets] 36)) = .ok (.slice A' (l'.length + 1) c') w5 := happ
          subst hv
          have HN : Aside (Row KC w1 w5 (.slice A' (l'.length + 1) c') (l' ++ [f]) ∧ InRel x l (l' ++ [f]) (k + 1) false) := ⟨hrow, HR.out.2.pass HF.out (by have := HL.out; omega)⟩
          clear happ hrow
          go_wp2_with (at_builtin; refine Go.Lib.wpList_append_run _ rfl _ _ _ _ rfl _ _ rfl rfl _ _ happ2 ?_)
          exact ⟨⟨k + 1, _, false, by omega, by simp, rfl, HN⟩, by simp [intOf]; omega⟩
    · have hk1 : ¬ (k : Int) < l.length := by omega
      have hkn : k = l.length := by omega
      subst hkn
      cases dd with
      | true =>
        have HX : Aside (Row KC w wr u5 (ins x l)) := ⟨by
          rcases HR.out.2 with ⟨h, _⟩ | ⟨_, h⟩
          · cases h
          · rw [List.drop_length, List.append_nil] at h
            rw [← h]
            exact HR.out.1.since HW1.out⟩
        go_wp2
        go_ret
        exact ⟨_, rfl, HX.out⟩
      | false =>
        obtain ⟨A0, c0, A', c', w5, hv, happ, hrow, _⟩ := HR.out.1.app2 x (by have := HR.out.2.len; omega)
        have happ2 : (Builtin.append_ #[30, 30] 30 #[.slice A0 l'.length c0, .slice (some ⟨wr.heap.size, 0, none⟩) 1 1]).run Try.prog (wr.alloc (.cells #[.int .i64 x.tick, .int .i64 x.seq, .int .i64 x.nets] 36)) = .ok (.slice A' (l'.length + 1) c') w5 := happ
        subst hv
        have HX : Aside (Row KC w w5 (.slice A' (l'.length + 1) c') (ins x l)) := ⟨by
          rcases HR.out.2 with ⟨_, h, h2⟩ | ⟨h, _⟩
          · rw [List.take_length] at h h2
            rw [ins_none h2, ← h]
            exact hrow.since HW1.out
          · cases h⟩
        clear happ hrow
        go_wp2_with (at_builtin; refine Go.Lib.wpList_append_run _ rfl _ _ _ _ rfl _ _ rfl rfl _ _ happ2 ?_)
        go_ret
        exact ⟨_, rfl, HX.out⟩
end Go.Proofs.Ytdhgallfplbhpaa
