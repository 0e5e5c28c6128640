/- SubvlOrder: each queue's texts come out in order, each once. Conditions: those of the row. -/
import Derived.Test.YtjhpeelgehchiaaOrd
import Derived.Lib.AppendZeros
namespace Go.Proofs.Ytjhpeelgehchiaa
open Go.RowKit Go.Proofs.YtjhpeelgehchiaaW.PrintWords
set_option linter.unusedVariables false

/-- What has come out of each queue and what is in it is what was put in. -/
structure OrdRel (w0 W : World) (g h1 h2 : Nat) (s : St) (A B : Nat → List ByteArray) (mm dd nn : Nat) : Prop where
  t : Three w0 W g h1 h2 s A B
  m : s.many = mm
  d : s.depth = dd
  l : ∀ k, A k = B k ++ s.L k
  n : ∀ k, (A k).length ≤ 20 * nn
theorem OrdRel.up {w0 W W' : World} {g h1 h2 : Nat} {s : St} {A B : Nat → List ByteArray} {m d k : Nat} (h : OrdRel w0 W g h1 h2 s A B m d k) (t : Three w0 W' g h1 h2 s A B) : OrdRel w0 W' g h1 h2 s A B m d (k + 1) :=
  ⟨t, h.m, h.d, h.l, fun q => by have := h.n q; omega⟩
def OrdAny (w0 W : World) (g h1 h2 mm dd nn : Nat) : Prop := ∃ s A B, OrdRel w0 W g h1 h2 s A B mm dd nn
theorem three_new {w0 w1 : World} {g : Nat} {s : St} (H : In w0 w1 g s) (hmi : ∀ k, Mine w1 g k → k = g) :
    Three w0 ((w1.alloc (.cells #[.slice none 0 0, .slice none 0 0, .slice none 0 0, .slice none 0 0] 36)).alloc (.cells #[.slice none 0 0, .slice none 0 0, .slice none 0 0, .slice none 0 0] 36)) g w1.heap.size (w1.heap.size + 1) s (fun _ => []) (fun _ => []) := by
  have hg := H.held.lt
  have H1 := H.alloc (.cells #[.slice none 0 0, .slice none 0 0, .slice none 0 0, .slice none 0 0] 36)
  have H2 := H1.alloc (.cells #[.slice none 0 0, .slice none 0 0, .slice none 0 0, .slice none 0 0] 36)
  have b1 := (Blk.new w1 36 #[.slice none 0 0, .slice none 0 0, .slice none 0 0, .slice none 0 0]).alloc (.cells #[.slice none 0 0, .slice none 0 0, .slice none 0 0, .slice none 0 0] 36)
  have b2 := Blk.new (w1.alloc (.cells #[.slice none 0 0, .slice none 0 0, .slice none 0 0, .slice none 0 0] 36)) 36 #[.slice none 0 0, .slice none 0 0, .slice none 0 0, .slice none 0 0]
  rw [show (w1.alloc (.cells #[.slice none 0 0, .slice none 0 0, .slice none 0 0, .slice none 0 0] 36)).heap.size = w1.heap.size + 1 by simp] at b2
  have n1 := newA b1
  have n2 := newA b2
  have hs := H.below.size
  have e0 : ∀ k, Mine ((w1.alloc (.cells #[.slice none 0 0, .slice none 0 0, .slice none 0 0, .slice none 0 0] 36)).alloc (.cells #[.slice none 0 0, .slice none 0 0, .slice none 0 0, .slice none 0 0] 36)) g k → k = g := fun k hk =>
    hmi k ((Mine.keep H.held ((Below.heap_alloc _ _ _ (by simp; omega)).trans (Below.heap_alloc _ _ _ hg)) k).1 hk)
  exact ⟨H2, n1.1, n2.1, fun k h1 h2 => by have := e0 k h1; have := n1.2 k h2; omega, fun k h1 h2 => by have := e0 k h1; have := n2.2 k h2; omega, fun k h1 h2 => by have := n1.2 k h1; have := n2.2 k h2; omega,
    fun k hk => by have := n1.2 k hk; omega, fun k hk => by have := n2.2 k hk; omega⟩
theorem src_of {w : World} {a : Option Addr} {len : Nat} {L : Nat → ByteArray} (h : Txts w a len L) : Src w a len ((List.range len).map L) := by
  refine ⟨by simp, fun hm => ?_⟩
  obtain ⟨b, off, ha, _⟩ := h 0 hm
  refine ⟨⟨b, off, none⟩, ha, fun j u hj => ?_⟩
  unfold strs at hj
  rw [List.getElem?_map, List.getElem?_map] at hj
  by_cases hjl : j < len
  · rw [List.getElem?_range hjl] at hj
    simp only [Option.map_some, Option.some.injEq] at hj
    obtain ⟨b', off', ha', hc⟩ := h j hjl
    rw [ha] at ha'
    injection ha' with ha'
    injection ha' with hb ho
    subst hb; subst ho; subst hj
    rw [add_at]
    exact hc
  · rw [List.getElem?_eq_none (by simpa using hjl)] at hj
    simp at hj
theorem Sl.calls {w : World} {a : Option Addr} {len : Nat} {L : Nat → OpV} (h : Sl w a len 3 (isOp w) L) : ∀ k, k < len → ∃ b off, a = some ⟨b, off, none⟩ ∧ w.cell? ⟨b, off + k * 3, none⟩ = some (.int .i64 (L k).ask) ∧ w.cell? ⟨b, off + k * 3 + 1, none⟩ = some (.int .i64 (L k).i) ∧ w.cell? ⟨b, off + k * 3 + 2, none⟩ = some (.slice (L k).a (L k).len (L k).cap) ∧ (L k).len ≤ maxLen ∧ Txts w (L k).a (L k).len (L k).L := by
  intro k hk
  obtain ⟨b, off, ha, hx⟩ := h.2 (by omega)
  obtain ⟨cs, hl, ⟨rfl, h1, h2, _⟩, hc⟩ := hx k hk
  have c0 := hc 0 (by omega)
  have c1 := hc 1 (by omega)
  have c2 := hc 2 (by omega)
  simp at c0 c1 c2
  exact ⟨b, off, ha, c0, by rw [Nat.add_assoc]; exact c1, by rw [Nat.add_assoc]; exact c2, h1, h2⟩
theorem q_read {w : World} {v : Value} {xs : List ByteArray} (h : QRow w 0 9 1 v xs.length (strs xs)) (hn : 0 < xs.length) : ∃ b off c, v = .slice (some ⟨b, off, none⟩) xs.length c ∧ ∀ i x, xs[i]? = some x → w.cell? ⟨b, off + i, none⟩ = some (.string x) := by
  rcases h.2 with ⟨h0, _⟩ | ⟨g, off, cap, cur, he, hg, hh, hnc, hm, hcs, ht⟩
  · omega
  · refine ⟨g, off * 1, cap, he, fun i x hx => ?_⟩
    obtain ⟨ad, ha, hc⟩ := q_cells (by rw [he] at h; exact h) hn
    injection ha with ha
    subst ha
    have := hc i (.string x) (by unfold strs; rw [List.getElem?_map, hx]; rfl)
    rw [add_at] at this
    exact this
theorem Held.not_box {w : World} {g b : Nat} {s : St} {cs : Array Value} (h : Held w g s) (hb : Blk w b 38 cs) : ¬ Mine w g b := by
  obtain ⟨vs, h1, h2⟩ := h
  intro hm
  unfold Blk at hb h1
  rcases (mine_of h1).1 hm with rfl | ⟨i, hi, hv⟩
  · rw [hb] at h1
    injection h1 with h1
    injection h1 with _ ht
    exact absurd ht (by decide)
  · obtain ⟨cells, hc⟩ := h2.typed hi hv
    rw [hb] at hc
    injection hc with hc
    injection hc with _ ht
    exact absurd ht (by decide)
theorem box_put {w w' : World} {g b : Nat} {s s' : St} {cs : Array Value} (h : Held w g s) (hb : Blk w b 38 cs) (hp : PutPost w g s' w') : Blk w' b 38 cs :=
  (hp.2.upon.block b hb.lt (h.not_box hb)).trans hb
theorem OrdRel.rows {w0 W : World} {g h1 h2 k : Nat} {s : St} {A B : Nat → List ByteArray} {mm dd : Nat} (h : OrdRel w0 W g h1 h2 s A B mm dd k) {q : Nat} (hq : q < 4) :
    ∃ a b c1 c2, W.cell? ⟨h1, q, none⟩ = some (.slice a (A q).length c1) ∧ W.cell? ⟨h2, q, none⟩ = some (.slice b (B q).length c2) := by
  obtain ⟨va, hba, hra⟩ := h.t.a
  obtain ⟨vb, hbb, hrb⟩ := h.t.b
  obtain ⟨A1, c1, hv1, hc1⟩ := q_slice (hra.q q hq)
  obtain ⟨A2, c2, hv2, hc2⟩ := q_slice (hrb.q q hq)
  exact ⟨A1, A2, c1, c2, by rw [hba.cell q, arrOf_get _ hq, hv1], by rw [hbb.cell q, arrOf_get _ hq, hv2]⟩
theorem OrdRel.texts {w0 W : World} {g h1 h2 k : Nat} {s : St} {A B : Nat → List ByteArray} {mm dd : Nat} (h : OrdRel w0 W g h1 h2 s A B mm dd k) {q : Nat} (hq : q < 4) {i : Nat} (hi : i < (B q).length) :
    ∃ b1 o1 b2 o2 c1 c2 x, W.cell? ⟨h1, q, none⟩ = some (.slice (some ⟨b1, o1, none⟩) (A q).length c1) ∧ W.cell? ⟨h2, q, none⟩ = some (.slice (some ⟨b2, o2, none⟩) (B q).length c2) ∧
      W.cell? ⟨b1, o1 + i, none⟩ = some (.string x) ∧ W.cell? ⟨b2, o2 + i, none⟩ = some (.string x) := by
  obtain ⟨va, hba, hra⟩ := h.t.a
  obtain ⟨vb, hbb, hrb⟩ := h.t.b
  have hl := h.l q
  have hAB : (A q).length = (B q).length + (s.L q).length := by rw [hl, List.length_append]
  obtain ⟨b1, o1, c1, hv1, hc1⟩ := q_read (hra.q q hq) (by omega)
  obtain ⟨b2, o2, c2, hv2, hc2⟩ := q_read (hrb.q q hq) (by omega)
  refine ⟨b1, o1, b2, o2, c1, c2, (B q)[i], by rw [hba.cell q, arrOf_get _ hq, hv1], by rw [hbb.cell q, arrOf_get _ hq, hv2], hc1 i _ ?_, hc2 i _ (List.getElem?_eq_getElem hi)⟩
  rw [hl, List.getElem?_append_left hi]
  exact List.getElem?_eq_getElem hi
theorem OrdRel.le {w0 W : World} {g h1 h2 k : Nat} {s : St} {A B : Nat → List ByteArray} {mm dd : Nat} (h : OrdRel w0 W g h1 h2 s A B mm dd k) (q : Nat) : (B q).length ≤ (A q).length := by
  rw [h.l q, List.length_append]; omega
theorem OrdRel.small {w0 W : World} {g h1 h2 k : Nat} {s : St} {A B : Nat → List ByteArray} {mm dd : Nat} (h : OrdRel w0 W g h1 h2 s A B mm dd k) (hk : k ≤ 100) (q : Nat) : (A q).length ≤ 2000 := by
  have := h.n q; omega
theorem OrdRel.lenI {w0 W : World} {g h1 h2 k : Nat} {s : St} {A B : Nat → List ByteArray} {mm dd : Nat} (h : OrdRel w0 W g h1 h2 s A B mm dd k) (q : Nat) : ((s.lenI q : Nat) : Int) = ((A q).length : Int) - ((B q).length : Int) := by
  have h1 : s.lenI q = (s.L q).length := by
    unfold St.lenI
    by_cases hq : q < s.many
    · rw [if_pos (by omega)]; simp
    · rw [if_neg (by omega), h.t.q.ok.none q (by omega)]; rfl
  rw [h1, h.l q, List.length_append]
  omega
theorem OrdRel.drewN {w0 W : World} {g h1 h2 k : Nat} {s : St} {A B : Nat → List ByteArray} {mm dd : Nat} (h : OrdRel w0 W g h1 h2 s A B mm dd k) (n : Nat) : OrdRel w0 (W.drewN n) g h1 h2 s A B mm dd k :=
  ⟨h.t.next (below_drewN (Below.refl _ _) n), h.m, h.d, h.l, h.n⟩
/-- A row of the first array grows as its queue has. -/
theorem OrdRel.grow {w0 W W' : World} {g h1 h2 j k : Nat} {s : St} {A B : Nat → List ByteArray} {mm dd : Nat} {ys : List ByteArray} (h : OrdRel w0 W g h1 h2 s A B mm dd k) (hy : ys.length ≤ 20)
    (t : Three w0 W' g h1 h2 (s.push j ys) (upd A j (A j ++ ys)) B) : OrdRel w0 W' g h1 h2 (s.push j ys) (upd A j (A j ++ ys)) B mm dd (k + 1) := by
  refine ⟨t, h.m, h.d, fun q => ?_, fun q => ?_⟩
  · show upd A j _ q = B q ++ upd s.L j _ q
    by_cases hq : q = j
    · subst hq
      rw [upd_same, upd_same, h.l q, List.append_assoc]
    · rw [upd_ne _ _ hq, upd_ne _ _ hq, h.l q]
  · have := h.n q
    by_cases hq : q = j
    · subst hq
      rw [upd_same, List.length_append]
      omega
    · rw [upd_ne _ _ hq]
      omega
theorem OrdRel.take {w0 W W' : World} {g h1 h2 T k : Nat} {s : St} {A B : Nat → List ByteArray} {mm dd : Nat} {x : ByteArray} {xs : List ByteArray} (h : OrdRel w0 W g h1 h2 s A B mm dd k) (hx : s.L T = x :: xs)
    (t : Three w0 W' g h1 h2 (s.pop T) A (upd B T (B T ++ [x]))) : OrdRel w0 W' g h1 h2 (s.pop T) A (upd B T (B T ++ [x])) mm dd (k + 1) := by
  refine ⟨t, h.m, h.d, fun q => ?_, fun q => by have := h.n q; omega⟩
  show A q = upd B T _ q ++ upd s.L T _ q
  by_cases hq : q = T
  · subst hq
    rw [upd_same, upd_same, h.l q, hx]
    simp
  · rw [upd_ne _ _ hq, upd_ne _ _ hq, h.l q]
set_option maxRecDepth 100000 in
set_option maxHeartbeats 4000000 in
theorem subvlOrder_walk (many dep : Int) (a : Option Addr) (len cap : Nat) (L : Nat → OpV) (w : World) (h1 : -9223372036854775808 ≤ many ∧ many ≤ 9223372036854775807) (h2 : -9223372036854775808 ≤ dep ∧ dep ≤ 9223372036854775807) (hs : Sl w a len 3 (isOp w) L) :
    Calls Try.prog 5 #[.int .i64 many, .int .i64 dep, .slice a len cap] w fun e w' => e = .returned (.bool true) ∧ Below w.heap.size w w' := by
  have HS := Aside.mk hs.calls
  have hm := hs.1
  unfold maxLen at hm
  clear h1 h2 hs
  by_cases hd : 1 ≤ many ∧ many ≤ 4 ∧ 1 ≤ dep ∧ dep ≤ 1024
  case neg =>
    have HD := Aside.mk hd
    clear hd hm HS
    go_enter Try.func5, Try.ntmps5
    go_wp2_with (first
      | (go_at_call 9; refine (new_calls_no _ _ _ HD.out).mono ?_; rintro e w' ⟨rfl, rfl⟩)
      | (go_at_call 10; refine (awake_calls _).mono ?_; rintro e w' ⟨rfl, hb⟩; have HB := Aside.mk hb; clear hb))
    go_ret
    exact ⟨rfl, HB.out⟩
  obtain ⟨m, rfl⟩ : ∃ m : Nat, many = m := ⟨many.toNat, by omega⟩
  obtain ⟨d, rfl⟩ : ∃ d : Nat, dep = d := ⟨dep.toNat, by omega⟩
  have HD : Aside (1 ≤ m ∧ m ≤ 4 ∧ 1 ≤ d ∧ d ≤ 1024) := ⟨by omega⟩
  clear hd
  go_enter Try.func5, Try.ntmps5
  go_wp2_with fail
  refine (new_calls_ok m d _ HD.out).mono ?_
  rintro e w1 ⟨rfl, hh, hmi, hb⟩
  have HR : Aside (OrdAny w ((w1.alloc (.cells #[.slice none 0 0, .slice none 0 0, .slice none 0 0, .slice none 0 0] 36)).alloc (.cells #[.slice none 0 0, .slice none 0 0, .slice none 0 0, .slice none 0 0] 36)) w.heap.size w1.heap.size (w1.heap.size + 1) m d 0) :=
    ⟨⟨_, _, _, ⟨three_new (In.first HD.out hh hmi hb) hmi, rfl, rfl, fun _ => rfl, fun _ => Nat.zero_le _⟩⟩⟩
  clear hh hmi hb
  go_wp2_with fail
  generalize hw2 : World.alloc _ _ = w2 at HR
  try rw [hw2]
  go_loopw [11] (fun i wr => ∃ k : Nat, k ≤ len ∧ k ≤ 100 ∧ i = .int .i64 k ∧ Aside (OrdAny w wr w.heap.size w1.heap.size (w1.heap.size + 1) m d k)) (fun i _ => len - (intOf i).toNat)
  case atStart => exact ⟨0, by omega, by omega, rfl, HR⟩
  case round =>
    clear HR
    obtain ⟨k, hk, hk100, rfl, HR⟩ := hrel
    by_cases hin : k < len ∧ k < 100
    · obtain ⟨hlt, hlt2⟩ := hin
      obtain ⟨b, off, ha, hcell0, hcell1, hcell2, hol, htx⟩ := HS.out k hlt
      subst ha
      obtain ⟨s, A, B, hO⟩ := HR.out
      have HO := Aside.mk hO
      have hc0 := below_cell hO.t.q.below hcell0
      have hc1 := below_cell hO.t.q.below hcell1
      have hc2 := below_cell hO.t.q.below hcell2
      have HX := Aside.mk htx
      have HOL := Aside.mk hol
      clear hO HR hcell0 hcell1 hcell2 htx hol
      generalize L k = o at *
      have hk0 : (0 : Int) ≤ k := by omega
      have hk1 : (k : Int) < len := by omega
      have hk2 : (k : Int) < 100 := by omega
      go_wp2_with fail
      have HT0 := Aside.mk (HO.out.t.next ((Below.refl _ _).alloc (Nat.le_refl _) (.cells #[.int .i64 o.ask, .int .i64 o.i, .slice o.a o.len o.cap] 38)))
      have HB0 := Aside.mk (Blk.new wr 38 #[.int .i64 o.ask, .int .i64 o.i, .slice o.a o.len o.cap])
      have HBX : Aside (Below w.heap.size w (wr.alloc (.cells #[.int .i64 o.ask, .int .i64 o.i, .slice o.a o.len o.cap] 38))) := ⟨HT0.out.q.below⟩
      refine (few_calls _ _ _ _ _ o.L _ HOL.out (HX.out.below HBX.out)).mono ?_
      rintro e w4 ⟨⟨bb, rfl, hfew⟩, hb⟩
      have HF := Aside.mk hfew
      have HT1 := Aside.mk (HT0.out.next hb)
      have hbx : Blk w4 38 38 #[] → True := fun _ => trivial
      have HB1 : Aside (Blk w4 wr.heap.size 38 #[.int .i64 o.ask, .int .i64 o.i, .slice o.a o.len o.cap]) := ⟨(hb.block _ HB0.out.lt).trans HB0.out⟩
      clear hb hc0 hc1 hc2 hbx hfew HB0 HT0 HBX
      cases bb with
      | false =>
        clear HF
        go_wp2_with fail
        refine (awake_calls _).mono ?_
        rintro e w6 ⟨rfl, hb⟩
        have H2 := Aside.mk (HT1.out.next hb)
        clear hb
        go_wp2
        go_ret
        exact ⟨rfl, H2.out.q.below⟩
      | true =>
        have HW := Aside.mk (HF.out.1 rfl)
        clear HF
        have b0 : w4.cell? ⟨wr.heap.size, 0, none⟩ = some (.int .i64 o.ask) := HB1.out.cell 0
        have b1 : w4.cell? ⟨wr.heap.size, 1, none⟩ = some (.int .i64 o.i) := HB1.out.cell 1
        have b2 : w4.cell? ⟨wr.heap.size, 2, none⟩ = some (.slice o.a o.len o.cap) := HB1.out.cell 2
        by_cases hask : o.ask = 0
        · have hd0 : decide (o.ask = 0) = true := decide_eq_true hask
          have hwk : IntKind.i64.wrap ((k : Int) + 1) = (k : Int) + 1 := IntWalk.i64_in _ (by omega)
          by_cases hr : 0 ≤ o.i ∧ o.i < (m : Int)
          · obtain ⟨j, hji⟩ : ∃ j : Nat, o.i = j := ⟨o.i.toNat, by omega⟩
            have hjm : j < s.many := by rw [HO.out.m]; omega
            have HJ := Aside.mk hjm
            by_cases hf : (s.L j).length + o.len ≤ s.depth
            · have HFU := Aside.mk hf
              have hj3 : (j : Int) ≤ 3 := by have := HD.out; omega
              have hj0 : (0 : Int) ≤ j := by omega
              clear hr hjm hf
              rw [hji] at b1
              go_wp2_with fail
              refine (push_fits _ s j _ _ _ _ _ HT1.out.q.held HT1.out.q.ok HJ.out HFU.out (src_of (HX.out.below HT1.out.q.below))).mono ?_
              rintro e w5 ⟨rfl, hp⟩
              have hbb := box_put HT1.out.q.held HB1.out hp
              have HBB := Aside.mk hbb
              have d0 : w5.cell? ⟨wr.heap.size, 0, none⟩ = some (.int .i64 o.ask) := hbb.cell 0
              have d1 : w5.cell? ⟨wr.heap.size, 1, none⟩ = some (.int .i64 o.i) := hbb.cell 1
              have d2 : w5.cell? ⟨wr.heap.size, 2, none⟩ = some (.slice o.a o.len o.cap) := hbb.cell 2
              rw [hji] at d1
              have HT2 := Aside.mk (HT1.out.queue hp (St.push_ok HT1.out.q.ok HJ.out (by have := HFU.out; simpa using this)))
              have HX2 := Aside.mk (HX.out.below HT2.out.q.below)
              clear hp hbb b0 b1 b2 HB1
              obtain ⟨vs, hb, hr⟩ := HT2.out.a
              have hj4 : j < 4 := by omega
              obtain ⟨A0, c', hv, hc⟩ := q_slice (hr.q j hj4)
              have cj : w5.cell? ⟨w1.heap.size, j, none⟩ = some (.slice A0 (A j).length c') := by rw [hb.cell j, arrOf_get _ hj4, hv]
              have hj' : (j : Int) < 4 := by omega
              have hjn : ¬ (j : Int) < 0 := by omega
              have hjn3 : ¬ (3 : Int) < j := by omega
              have HQ : Aside (QRow w5 0 9 1 (.slice A0 (A j).length c') (A j).length (strs (A j))) := ⟨by have := hr.q j hj4; rw [hv] at this; exact this⟩
              have HN : Aside ((Value.slice A0 (A j).length c').ownBlock ≠ some w1.heap.size) := ⟨by
                rw [← hv]
                intro he
                obtain ⟨cells, hc⟩ := hr.typed hj4 he
                unfold Blk at hb
                rw [hb] at hc
                injection hc with hc
                injection hc with _ ht
                exact absurd ht (by decide)⟩
              have HNB : Aside ((Value.slice A0 (A j).length c').ownBlock ≠ some wr.heap.size) := ⟨by
                rw [← hv]
                intro he
                obtain ⟨cells, hc⟩ := hr.typed hj4 he
                have hb := HBB.out
                unfold Blk at hb
                rw [hb] at hc
                injection hc with hc
                injection hc with _ ht
                exact absurd ht (by decide)⟩
              have HLE : Aside ((A j).length + o.len ≤ 5000) := ⟨by have := HO.out.n j; have := HW.out.1; omega⟩
              have HB := Aside.mk hb
              have HR := Aside.mk hr
              have HV := Aside.mk hv
              have HJ4 := Aside.mk hj4
              clear hb hr hv hc hj4
              go_wp2_with fail
              have HS2 := Aside.mk (src_of HX2.out)
              go_region_law ((refine step_push (by rfl) _ _ (by rfl) _ _ _ (by rfl) HQ.out _ o.len _ _ (by rfl) HS2.out HLE.out ?_; intro A' c1 w6 hq hg hat; have cj' := far_cell hg cj HN.out; have e0 := far_cell hg d0 HNB.out; have e1 := far_cell hg d1 HNB.out; have e2 := far_cell hg d2 HNB.out; have hb1 := blk_grown hg HB.out HN.out; have hf1 := hb1.frozen j; have HQ1 := Aside.mk hq; have HG1 := Aside.mk hg; have HA1 := Aside.mk hat; have HB1 := Aside.mk hb1; clear hq hg hat hb1))
              all_goals
                have hb2 := HB1.out.set j (.slice A' ((A j).length + o.len) c1)
                rw [arrOf_set _ HJ4.out] at hb2
                have hu2 : Upon (· = w1.heap.size) w6 (w6.setCell ⟨w1.heap.size, j, none⟩ (.slice A' ((A j).length + o.len) c1)) := (Upon.refl (· = w1.heap.size) w6).setg (g := w1.heap.size) rfl _ _
                generalize w6.setCell ⟨w1.heap.size, j, none⟩ (.slice A' ((A j).length + o.len) c1) = w7 at hb2 hu2 ⊢
                have hlen : (A j ++ List.map o.L (List.range o.len)).length = (A j).length + o.len := by simp
                have hput := putA_done (xs := A j ++ List.map o.L (List.range o.len)) (v' := .slice A' ((A j).length + o.len) c1) HB.out HR.out HJ4.out (by rw [hlen]; exact HQ1.out) (by rw [HV.out]; exact grown_drewN HG1.out) (by rw [HV.out]; exact HA1.out) hb2 hu2
                have HNX : Aside (OrdAny w w7 w.heap.size w1.heap.size (w1.heap.size + 1) m d (k + 1)) := ⟨⟨_, _, _, HO.out.grow (by simp; exact HW.out.1) (HT2.out.first hput.1 hput.2)⟩⟩
                clear hb2 hu2 hput
                go_wp2
                exact ⟨⟨k + 1, by omega, by omega, by simp, HNX⟩, by simp [intOf]; omega⟩
            · have HFU : Aside (s.depth < (s.L j).length + o.len) := ⟨by omega⟩
              clear hr hjm hf
              rw [hji] at b1
              go_wp2_with fail
              refine (push_full _ s j _ _ _ _ HT1.out.q.held HT1.out.q.ok HJ.out HFU.out HOL.out).mono ?_
              rintro e w5 ⟨rfl, hb⟩
              have HN : Aside (OrdAny w w5 w.heap.size w1.heap.size (w1.heap.size + 1) m d (k + 1)) := ⟨⟨_, _, _, HO.out.up (HT1.out.next hb)⟩⟩
              clear hb
              go_wp2
              exact ⟨⟨k + 1, by omega, by omega, by simp, HN⟩, by simp [intOf]; omega⟩
          · have HRR : Aside (¬ (0 ≤ o.i ∧ o.i < (s.many : Int))) := ⟨by rw [HO.out.m]; exact hr⟩
            clear hr
            go_wp2_with fail
            refine (push_arg _ s _ _ _ _ _ HT1.out.q.held HRR.out).mono ?_
            rintro e w5 ⟨rfl, rfl⟩
            have HN : Aside (OrdAny w w4 w.heap.size w1.heap.size (w1.heap.size + 1) m d (k + 1)) := ⟨⟨_, _, _, HO.out.up HT1.out⟩⟩
            clear HRR
            go_wp2
            exact ⟨⟨k + 1, by omega, by omega, by simp, HN⟩, by simp [intOf]; omega⟩
        · have hd0 : decide (o.ask = 0) = false := decide_eq_false hask
          have hwk : IntKind.i64.wrap ((k : Int) + 1) = (k : Int) + 1 := IntWalk.i64_in _ (by omega)
          by_cases hall : s.all = 0
          · have HALL := Aside.mk hall
            clear hall
            go_wp2_with fail
            refine (in_empty HT1.out.q HALL.out).mono ?_
            rintro e w5 ⟨rfl, rfl⟩
            have HN : Aside (OrdAny w w4 w.heap.size w1.heap.size (w1.heap.size + 1) m d (k + 1)) := ⟨⟨_, _, _, HO.out.up HT1.out⟩⟩
            go_wp2
            exact ⟨⟨k + 1, by omega, by omega, by simp, HN⟩, by simp [intOf]; omega⟩
          · obtain ⟨dd, T, hnx⟩ := exists_next HT1.out.q.ok hall
            obtain ⟨x, xs, hx⟩ : ∃ x xs, s.L T = x :: xs := by
              cases h : s.L T with
              | nil => exact absurd h hnx.has
              | cons x xs => exact ⟨x, xs, rfl⟩
            have hTlt := hnx.lt
            have hm4 := HT1.out.q.ok.m1
            have HNX := Aside.mk hnx
            have HXX := Aside.mk hx
            clear hnx hx hall
            go_wp2_with fail
            refine (pop_calls _ s dd T x xs _ HT1.out.q.held HT1.out.q.ok HNX.out HXX.out).mono ?_
            rintro e w5 ⟨rfl, hp⟩
            have HT2 := Aside.mk (HT1.out.queue hp (St.pop_ok HT1.out.q.ok))
            obtain ⟨vs, hb, hr⟩ := HT2.out.b
            have hj4 : T < 4 := by omega
            have hT' : (T : Int) < 4 := by omega
            have hT0 : (0 : Int) ≤ T := by omega
            have hTn : ¬ (T : Int) < 0 := by omega
            have hTn3 : ¬ (3 : Int) < T := by omega
            obtain ⟨A0, c', hv, hc⟩ := q_slice (hr.q T hj4)
            have cj : w5.cell? ⟨w1.heap.size + 1, T, none⟩ = some (.slice A0 (B T).length c') := by rw [hb.cell T, arrOf_get _ hj4, hv]
            have HNG : Aside ((Value.slice A0 (B T).length c').ownBlock ≠ some (w1.heap.size + 1)) := ⟨by
              rw [← hv]
              intro he
              obtain ⟨cells, hc⟩ := hr.typed hj4 he
              unfold Blk at hb
              rw [hb] at hc
              injection hc with hc
              injection hc with _ ht
              exact absurd ht (by decide)⟩
            have hlB : (B T).length ≤ 2000 := by
              have h1 := HO.out.n T
              rw [HO.out.l T, List.length_append] at h1
              omega
            have hb' := hb.alloc (.cells (strs [x]).toArray 9)
            have hr' : Lies (w5.alloc (.cells (strs [x]).toArray 9)) vs B := hr.move fun k b hk hbk => by
              obtain ⟨cells, hc⟩ := hr.typed hk hbk
              exact heap_alloc_old _ _ (Array.getElem?_eq_some_iff.1 hc).1
            have HT3 := Aside.mk (HT2.out.next ((Below.refl _ _).alloc (Nat.le_refl _) (.cells (strs [x]).toArray 9)))
            obtain ⟨A', c1, w6, happ, hq, hg, hat⟩ := run_push (w5.alloc (.cells (strs [x]).toArray 9)) 35 (.slice A0 (B T).length c') (B T).length (B T) (by have := hr'.q T hj4; rw [hv] at this; exact this) (some ⟨w5.heap.size, 0, none⟩) 1 1 [x] (src_new w5 [x]) (by omega)
            change (Builtin.append_ #[35, 35] 35 #[.slice A0 (B T).length c', .slice (some ⟨w5.heap.size, 0, none⟩) 1 1]).run Try.prog (w5.alloc (.cells #[.string x] 9)) = _ at happ
            have cj' := far_cell hg (p := ⟨w1.heap.size + 1, T, none⟩) ((hb'.cell T).trans (by rw [arrOf_get _ hj4, hv])) HNG.out
            have hb1 := blk_grown hg hb' HNG.out
            have hf1 := hb1.frozen T
            have HQ1 := Aside.mk hq
            have HG1 := Aside.mk hg
            have HA1 := Aside.mk hat
            have HBB := Aside.mk hb1
            have HB := Aside.mk hb'
            have HR := Aside.mk hr'
            have HV := Aside.mk hv
            have HJ4 := Aside.mk hj4
            clear hp b0 b1 b2 HB1 hc hq hg hat hb1 hb hr hv hj4 hb' hr'
            go_wp2_with (at_builtin; refine Go.Lib.wpList_append_run _ rfl _ _ _ _ rfl _ _ rfl rfl _ _ happ ?_)
            have hb2 := HBB.out.set T (.slice A' ((B T).length + 1) c1)
            rw [arrOf_set _ HJ4.out] at hb2
            have hu2 : Upon (· = w1.heap.size + 1) w6 (w6.setCell ⟨w1.heap.size + 1, T, none⟩ (.slice A' ((B T).length + 1) c1)) := (Upon.refl (· = w1.heap.size + 1) w6).setg (g := w1.heap.size + 1) rfl _ _
            generalize w6.setCell ⟨w1.heap.size + 1, T, none⟩ (.slice A' ((B T).length + 1) c1) = w7 at hb2 hu2 ⊢
            have hlen : (B T ++ [x]).length = (B T).length + 1 := by simp
            have hput := putA_done (xs := B T ++ [x]) (v' := .slice A' ((B T).length + 1) c1) HB.out HR.out HJ4.out (by rw [hlen]; exact HQ1.out) (by rw [HV.out]; exact HG1.out) (by rw [HV.out]; exact HA1.out) hb2 hu2
            have HNN : Aside (OrdAny w w7 w.heap.size w1.heap.size (w1.heap.size + 1) m d (k + 1)) := ⟨⟨_, _, _, HO.out.take HXX.out (HT3.out.second hput.1 hput.2)⟩⟩
            exact ⟨⟨k + 1, by omega, by omega, by simp, HNN⟩, by simp [intOf]; omega⟩
    · have hcase : (¬ (k : Int) < len) ∨ ((k : Int) < len ∧ ¬ (k : Int) < 100) := by omega
      clear hin
      rcases hcase with hk1 | ⟨hk1, hk2⟩
      all_goals
        go_wp2_with fail
        obtain ⟨s, A, B, hO⟩ := HR.out
        have HO := Aside.mk hO
        clear hO HR HS
        go_loopw [16] (fun i wq => ∃ q : Nat, q ≤ 4 ∧ i = .int .i64 q ∧ Aside (OrdRel w wq w.heap.size w1.heap.size (w1.heap.size + 1) s A B m d k)) (fun i _ => 4 - (intOf i).toNat)
        case atStart => exact ⟨0, by omega, rfl, HO⟩
        case round =>
          clear HO
          obtain ⟨q, hq4, rfl, HO⟩ := hrel
          by_cases hq : q < 4
          · obtain ⟨a1, b1, k1, k2, hca, hcb⟩ := HO.out.rows hq
            have hlen := HO.out.lenI q
            have hle := HO.out.le q
            have hle2 := HO.out.small hk100 q
            have hq0 : (0 : Int) ≤ q := by omega
            have hq1 : (q : Int) < 4 := by omega
            have hfd : decide (((A q).length : Int) < ((B q).length : Int)) = false := decide_eq_false (by omega)
            have hwr : IntKind.i64.wrap (((A q).length : Int) - ((B q).length : Int)) = ((A q).length : Int) - ((B q).length : Int) := IntWalk.i64_in _ (by omega)
            have HL : Aside (∀ n, Calls Try.prog 14 #[.pointer (some ⟨w.heap.size, 0, none⟩), .int .i64 q] (wr.drewN n) fun e w' => e = .returned (.int .i64 (((A q).length : Int) - ((B q).length : Int))) ∧ w' = wr.drewN n) := ⟨fun n => by
              refine (in_len (HO.out.t.q.drewN n) q).mono ?_
              rintro e w' ⟨rfl, rfl⟩
              exact ⟨by rw [hlen], rfl⟩⟩
            clear hlen
            go_wp2_with fail
            go_quiet ((go_at_call 14; exact Calls.quiet_of_same (HL.out _)))
            generalize hWQ : wr.drewN _ = wq
            have HO2 : Aside (OrdRel w wq w.heap.size w1.heap.size (w1.heap.size + 1) s A B m d k) := ⟨by rw [← hWQ]; exact HO.out.drewN _⟩
            clear hWQ hca hcb HL HO
            go_wp2_with fail
            go_loopw [17] (fun i wq => ∃ j : Nat, j ≤ (B q).length ∧ i = .int .i64 j ∧ Aside (OrdRel w wq w.heap.size w1.heap.size (w1.heap.size + 1) s A B m d k)) (fun i _ => (B q).length - (intOf i).toNat)
            case atStart => exact ⟨0, by omega, rfl, HO2⟩
            case round =>
              clear HO2
              obtain ⟨j, hjq, rfl, HO⟩ := hrel
              by_cases hj : j < (B q).length
              · obtain ⟨d1, o1, d2, o2, c1, c2, x, hca, hcb, hx1, hx2⟩ := HO.out.texts hq hj
                have hj0 : (0 : Int) ≤ j := by omega
                have hj1 : (j : Int) < ((B q).length : Int) := by omega
                have hj2 : (j : Int) < ((A q).length : Int) := by omega
                have hwk : IntKind.i64.wrap ((j : Int) + 1) = (j : Int) + 1 := IntWalk.i64_in _ (by omega)
                go_wp2_with fail
                go_quiet (fail)
                generalize hWQ : wr.drewN _ = wq
                have HO2 : Aside (OrdRel w wq w.heap.size w1.heap.size (w1.heap.size + 1) s A B m d k) := ⟨by rw [← hWQ]; exact HO.out.drewN _⟩
                clear hWQ hca hcb hx1 hx2 HO
                go_wp2_with fail
                exact ⟨⟨j + 1, by omega, by simp, HO2⟩, by simp [intOf]; omega⟩
              · obtain ⟨a1, b1, k1, k2, hca, hcb⟩ := HO.out.rows hq
                have hj1 : ¬ (j : Int) < ((B q).length : Int) := by omega
                have hwk : IntKind.i64.wrap ((q : Int) + 1) = (q : Int) + 1 := IntWalk.i64_in _ (by omega)
                go_wp2_with fail
                exact ⟨⟨q + 1, by omega, by simp, HO⟩, by simp [intOf]; omega⟩
          · have hq1 : ¬ (q : Int) < 4 := by omega
            go_wp2_with fail
            refine (awake_calls _).mono ?_
            rintro e w6 ⟨rfl, hb⟩
            have H2 := Aside.mk (HO.out.t.next hb)
            clear hb
            go_wp2
            go_ret
            exact ⟨rfl, H2.out.q.below⟩
end Go.Proofs.Ytjhpeelgehchiaa
