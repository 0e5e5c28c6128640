/- SubvlPlays: what each call answers, and how many texts there are, call by call. Conditions: those of the row. -/
import Derived.Test.YtjhpeelgehchiaaRel
namespace Go.Proofs.Ytjhpeelgehchiaa
open Go.RowKit Go.Proofs.YtjhpeelgehchiaaW.PrintWords
set_option linter.unusedVariables false

theorem src_of2 {w : World} {a : Option Addr} {len : Nat} {L : Nat → ByteArray} (h : Txts w a len L) : Src w a len (texts len L) := by
  refine ⟨texts_length _ _, fun hm => ?_⟩
  obtain ⟨b, off, ha, _⟩ := h 0 hm
  refine ⟨⟨b, off, none⟩, ha, fun j u hj => ?_⟩
  unfold strs texts at hj
  rw [List.getElem?_map, List.getElem?_map] at hj
  by_cases hjl : j < len
  · rw [List.getElem?_range hjl] at hj
    simp only [Option.map_some, Option.some.injEq] at hj
    obtain ⟨b', off', ha', hc⟩ := h j hjl
    rw [ha] at ha'
    injection ha' with ha'
    injection ha' with hb ho
    subst hb; subst ho; subst hj
    rw [add_at]
    exact hc
  · rw [List.getElem?_eq_none (by simpa using hjl)] at hj
    simp at hj
theorem Txts.lt {w : World} {a : Option Addr} {len : Nat} {L : Nat → ByteArray} (h : Txts w a len L) (hm : 0 < len) : ∀ ad, a = some ad → ad.block < w.heap.size := by
  intro ad had
  obtain ⟨b, off, ha, hc⟩ := h 0 hm
  rw [ha] at had
  injection had with had
  subst had
  exact World.block_lt_of_cell? w _ hc
/-- An argument of several calls. -/
theorem Sl.calls2 {w : World} {a : Option Addr} {len : Nat} {L : Nat → OpV} (h : Sl w a len 3 (isOp w) L) : ∀ k, k < len → ∃ b off, a = some ⟨b, off, none⟩ ∧ w.cell? ⟨b, off + k * 3, none⟩ = some (.int .i64 (L k).ask) ∧ w.cell? ⟨b, off + k * 3 + 1, none⟩ = some (.int .i64 (L k).i) ∧ w.cell? ⟨b, off + k * 3 + 2, none⟩ = some (.slice (L k).a (L k).len (L k).cap) ∧ (L k).len ≤ maxLen ∧ Txts w (L k).a (L k).len (L k).L := by
  intro k hk
  obtain ⟨b, off, ha, hx⟩ := h.2 (by omega)
  obtain ⟨cs, hl, ⟨rfl, h1, h2, _⟩, hc⟩ := hx k hk
  have c0 := hc 0 (by omega)
  have c1 := hc 1 (by omega)
  have c2 := hc 2 (by omega)
  simp at c0 c1 c2
  exact ⟨b, off, ha, c0, by rw [Nat.add_assoc]; exact c1, by rw [Nat.add_assoc]; exact c2, h1, h2⟩
theorem Turns.of_below {w w' : World} {g : Nat} {s : St} (hh : Held w g s) (hb : Below w.heap.size w w') : Held w' g s ∧ Turns w w' g :=
  ⟨hh.keep fun k hk _ => hb.block k hk, Upon.of_below hb, fun k hk => .inl ((mine_same (hb.block g hh.lt) k).1 hk)⟩
theorem RHeld.of_below {w w' : World} {g : Nat} {r : RS} (hh : RHeld w g r) (hb : Below w.heap.size w w') : RPost w g r w' :=
  ⟨hh.keep fun k hk _ => hb.block k hk, Upon.of_below hb, fun k hk => .inl ((mine_same (hb.block g (hh.owns g (.inl rfl))) k).1 hk)⟩
/-- What a Push answers, and what it leaves. -/
def St.pushed (s : St) (i : Int) (ys : List ByteArray) : Int × St :=
  if 0 ≤ i ∧ i < s.many then (if s.depth < (s.L i.toNat).length + ys.length then (22, s) else (0, s.push i.toNat ys)) else (1, s)
def RS.pushed (r : RS) (i : Int) (ys : List ByteArray) : Int × RS :=
  if 0 ≤ i ∧ i < r.many then (if r.depth < cnt r.l i + ys.length then (22, r) else (0, r.app i.toNat ys)) else (1, r)
theorem St.pushed_ok {s : St} (h : s.ok) (i : Int) (ys : List ByteArray) : (s.pushed i ys).2.ok := by
  unfold St.pushed
  split
  · split
    · exact h
    · exact St.push_ok h (by omega) (by omega)
  · exact h
theorem St.pushed_many (s : St) (i : Int) (ys : List ByteArray) : (s.pushed i ys).2.many = s.many ∧ (s.pushed i ys).2.depth = s.depth := by
  unfold St.pushed
  split
  · split <;> exact ⟨rfl, rfl⟩
  · exact ⟨rfl, rfl⟩
theorem Rel.pushed {s : St} {r : RS} (h : Rel s r) (i : Int) (ys : List ByteArray) : (r.pushed i ys).1 = (s.pushed i ys).1 ∧ Rel (s.pushed i ys).2 (r.pushed i ys).2 := by
  unfold St.pushed RS.pushed
  rw [h.m, h.d]
  by_cases hi : 0 ≤ i ∧ i < r.many
  · rw [if_pos hi, if_pos hi]
    obtain ⟨k, rfl⟩ : ∃ k : Nat, i = k := ⟨i.toNat, by omega⟩
    rw [h.cnt, Int.toNat_natCast]
    by_cases hf : r.depth < (s.L k).length + ys.length
    · rw [if_pos hf, if_pos hf]
      exact ⟨rfl, h⟩
    · rw [if_neg hf, if_neg hf]
      exact ⟨rfl, h.push (by omega) ys⟩
  · rw [if_neg hi, if_neg hi]
    exact ⟨rfl, h⟩
theorem push_any (g : Nat) (s : St) (i : Int) (a : Option Addr) (m c : Nat) (ys : List ByteArray) (w : World) (hh : Held w g s) (hk : s.ok) (hs : Src w a m ys) (hm : m ≤ maxLen) :
    Calls Try.prog 11 #[.pointer (some ⟨g, 0, none⟩), .int .i64 i, .slice a m c] w fun e w' => e = .returned (.int .i64 (s.pushed i ys).1) ∧ PutPost w g (s.pushed i ys).2 w' := by
  unfold St.pushed
  by_cases hi : 0 ≤ i ∧ i < s.many
  · rw [if_pos hi]
    obtain ⟨k, rfl⟩ : ∃ k : Nat, i = k := ⟨i.toNat, by omega⟩
    rw [Int.toNat_natCast]
    have hl := hs.1
    by_cases hf : s.depth < (s.L k).length + ys.length
    · rw [if_pos hf]
      refine (push_full g s k a m c w hh hk (by omega) (by omega) hm).mono ?_
      rintro e w' ⟨rfl, hb⟩
      exact ⟨rfl, Turns.of_below hh hb⟩
    · rw [if_neg hf]
      exact push_fits g s k a m c ys w hh hk (by omega) (by omega) hs
  · rw [if_neg hi]
    refine (push_arg g s i a m c w hh hi).mono ?_
    rintro e w' ⟨rfl, rfl⟩
    exact ⟨rfl, hh, Turns.refl _ _⟩
theorem rpush_any (h : Nat) (r : RS) (i : Int) (a : Option Addr) (m c : Nat) (L : Nat → ByteArray) (w : World) (H : RHeld w h r) (hsz : r.l.length ≤ 4900) (hm : m ≤ 100) (hs : Txts w a m L) (hfar : 0 < m → ∀ ad, a = some ad → ¬ Mine w h ad.block) :
    Calls Try.prog 17 #[.pointer (some ⟨h, 0, none⟩), .int .i64 i, .slice a m c] w fun e w' => e = .returned (.int .i64 (r.pushed i (texts m L)).1) ∧ RPost w h (r.pushed i (texts m L)).2 w' := by
  unfold RS.pushed
  by_cases hi : 0 ≤ i ∧ i < r.many
  · rw [if_pos hi]
    obtain ⟨k, rfl⟩ : ∃ k : Nat, i = k := ⟨i.toNat, by omega⟩
    rw [Int.toNat_natCast, texts_length]
    by_cases hf : r.depth < cnt r.l k + m
    · rw [if_pos hf]
      refine (rpush_full h r k a m c w H (by omega) (by omega) hm hf).mono ?_
      rintro e w' ⟨rfl, hb⟩
      exact ⟨rfl, H.of_below hb⟩
    · rw [if_neg hf]
      exact rpush_fits h r k a m c L w H hsz (by omega) hm (by omega) hs hfar
  · rw [if_neg hi]
    refine (rpush_arg h r i a m c w H hi).mono ?_
    rintro e w' ⟨rfl, rfl⟩
    exact ⟨rfl, H, Turns.refl _ _⟩
theorem Held.not_box {w : World} {g b : Nat} {s : St} {cs : Array Value} (h : Held w g s) (hb : Blk w b 38 cs) : ¬ Mine w g b := by
  obtain ⟨vs, h1, h2⟩ := h
  intro hm
  unfold Blk at hb h1
  rcases (mine_of h1).1 hm with rfl | ⟨i, hi, hv⟩
  · rw [hb] at h1
    injection h1 with h1
    injection h1 with _ ht
    exact absurd ht (by decide)
  · obtain ⟨cells, hc⟩ := h2.typed hi hv
    rw [hb] at hc
    injection hc with hc
    injection hc with _ ht
    exact absurd ht (by decide)
theorem RHeld.not_box {w : World} {g b : Nat} {r : RS} {cs : Array Value} (h : RHeld w g r) (hb : Blk w b 38 cs) : ¬ Mine w g b := by
  obtain ⟨v, h1, h2⟩ := h
  intro hm
  unfold Blk at hb h1
  rcases (mine_ref h1).1 hm with rfl | hv
  · rw [hb] at h1
    injection h1 with h1
    injection h1 with _ ht
    exact absurd ht (by decide)
  · obtain ⟨_, cells, hc⟩ := q_typed h2 b hv
    rw [hb] at hc
    injection hc with hc
    injection hc with _ ht
    exact absurd ht (by decide)
theorem box_put {w w' : World} {g b : Nat} {s s' : St} {cs : Array Value} (h : Held w g s) (hb : Blk w b 38 cs) (hp : PutPost w g s' w') : Blk w' b 38 cs :=
  (hp.2.upon.block b hb.lt (h.not_box hb)).trans hb
theorem box_rput {w w' : World} {g b : Nat} {r r' : RS} {cs : Array Value} (h : RHeld w g r) (hb : Blk w b 38 cs) (hp : RPost w g r' w') : Blk w' b 38 cs :=
  (hp.2.upon.block b hb.lt (h.not_box hb)).trans hb
/-- Both have made the same calls. -/
structure PlRel (w0 W : World) (g h : Nat) (s : St) (r : RS) (mm dd : Nat) : Prop where
  t : Two w0 W g h s r
  m : s.many = mm
  d : s.depth = dd
def PlAny (w0 W : World) (g h mm dd : Nat) : Prop := ∃ s r, PlRel w0 W g h s r mm dd
theorem two_new {w0 w1 w2 : World} {m d : Nat} (hd : 1 ≤ m ∧ m ≤ 4 ∧ 1 ≤ d ∧ d ≤ 1024) (H : In w0 w1 w0.heap.size (St.fresh m d)) (hmi : ∀ k, Mine w1 w0.heap.size k → k = w0.heap.size) (hr : RHeld w2 w1.heap.size (RS.fresh m d)) (hmr : ∀ k, Mine w2 w1.heap.size k → k = w1.heap.size) (hb : Below w1.heap.size w1 w2) :
    PlAny w0 w2 w0.heap.size w1.heap.size m d := by
  have hlt := H.held.lt
  refine ⟨_, _, ⟨H.next hb, hr, fun k h1 h2 => ?_, fun k hk => by rw [hmr k hk]; exact H.below.size, Rel.fresh m d⟩, rfl, rfl⟩
  have e1 := hmi k ((mine_same (hb.block _ hlt) k).1 h1)
  have e2 := hmr k h2
  omega
set_option maxRecDepth 100000 in
set_option maxHeartbeats 4000000 in
theorem subvlPlays_walk (many dep : Int) (a : Option Addr) (len cap : Nat) (L : Nat → OpV) (w : World) (h1 : -9223372036854775808 ≤ many ∧ many ≤ 9223372036854775807) (h2 : -9223372036854775808 ≤ dep ∧ dep ≤ 9223372036854775807) (hs : Sl w a len 3 (isOp w) L) :
    Calls Try.prog 7 #[.int .i64 many, .int .i64 dep, .slice a len cap] w fun e w' => e = .returned (.bool true) ∧ Below w.heap.size w w' := by
  have HS := Aside.mk hs.calls2
  have hm := hs.1
  unfold maxLen at hm
  clear h1 h2 hs
  by_cases hd : 1 ≤ many ∧ many ≤ 4 ∧ 1 ≤ dep ∧ dep ≤ 1024
  case neg =>
    have HD := Aside.mk hd
    clear hd hm HS
    go_enter Try.func7, Try.ntmps7
    go_wp2_with (first
      | (go_at_call 9; refine (new_calls_no _ _ _ HD.out).mono ?_; rintro e w' ⟨rfl, rfl⟩)
      | (go_at_call 16; refine (rnew_no _ _ _ HD.out).mono ?_; rintro e w' ⟨rfl, rfl⟩)
      | (go_at_call 10; refine (awake_calls _).mono ?_; rintro e w' ⟨rfl, hb⟩; have HB := Aside.mk hb; clear hb))
    go_ret
    exact ⟨rfl, HB.out⟩
  obtain ⟨m, rfl⟩ : ∃ m : Nat, many = m := ⟨many.toNat, by omega⟩
  obtain ⟨d, rfl⟩ : ∃ d : Nat, dep = d := ⟨dep.toNat, by omega⟩
  have HD : Aside (1 ≤ m ∧ m ≤ 4 ∧ 1 ≤ d ∧ d ≤ 1024) := ⟨by omega⟩
  clear hd
  go_enter Try.func7, Try.ntmps7
  go_wp2_with fail
  refine (new_calls_ok m d _ HD.out).mono ?_
  rintro e w1 ⟨rfl, hh, hmi, hb⟩
  have H1 := Aside.mk (In.first HD.out hh hmi hb)
  have HMI := Aside.mk hmi
  clear hh hmi hb
  go_wp2_with fail
  refine (rnew_ok m d _ HD.out).mono ?_
  rintro e w2 ⟨rfl, hh, hmi, hb⟩
  have HR : Aside (PlAny w w2 w.heap.size w1.heap.size m d) := ⟨two_new HD.out H1.out HMI.out hh hmi hb⟩
  clear hh hmi hb H1 HMI
  go_wp2_with fail
  go_loopw [11] (fun i wr => ∃ k : Nat, k ≤ len ∧ k ≤ 100 ∧ i = .int .i64 k ∧ Aside (PlAny w wr w.heap.size w1.heap.size m d)) (fun i _ => len - (intOf i).toNat)
  case atStart => exact ⟨0, by omega, by omega, rfl, HR⟩
  case round =>
    clear HR
    obtain ⟨k, hk, hk100, rfl, HR⟩ := hrel
    by_cases hin : k < len ∧ k < 100
    · obtain ⟨hlt, hlt2⟩ := hin
      obtain ⟨b, off, ha, hcell0, hcell1, hcell2, hol, htx⟩ := HS.out k hlt
      subst ha
      obtain ⟨s, r, hO⟩ := HR.out
      have HO := Aside.mk hO
      have hc0 := below_cell hO.t.q.below hcell0
      have hc1 := below_cell hO.t.q.below hcell1
      have hc2 := below_cell hO.t.q.below hcell2
      have HX := Aside.mk htx
      have HOL := Aside.mk hol
      clear hO HR hcell0 hcell1 hcell2 htx hol
      generalize L k = o at *
      have hk0 : (0 : Int) ≤ k := by omega
      have hk1 : (k : Int) < len := by omega
      have hk2 : (k : Int) < 100 := by omega
      go_wp2_with fail
      have HT0 := Aside.mk (HO.out.t.next ((Below.refl _ _).alloc (Nat.le_refl _) (.cells #[.int .i64 o.ask, .int .i64 o.i, .slice o.a o.len o.cap] 38)))
      have HB0 := Aside.mk (Blk.new wr 38 #[.int .i64 o.ask, .int .i64 o.i, .slice o.a o.len o.cap])
      have HBX : Aside (Below w.heap.size w (wr.alloc (.cells #[.int .i64 o.ask, .int .i64 o.i, .slice o.a o.len o.cap] 38))) := ⟨HT0.out.q.below⟩
      refine (few_calls _ _ _ _ _ o.L _ HOL.out (HX.out.below HBX.out)).mono ?_
      rintro e w4 ⟨⟨bb, rfl, hfew⟩, hb⟩
      have HF := Aside.mk hfew
      have HT1 := Aside.mk (HT0.out.next hb)
      have HB1 : Aside (Blk w4 wr.heap.size 38 #[.int .i64 o.ask, .int .i64 o.i, .slice o.a o.len o.cap]) := ⟨(hb.block _ HB0.out.lt).trans HB0.out⟩
      clear hb hc0 hc1 hc2 hfew HB0 HT0 HBX
      cases bb with
      | false =>
        clear HF
        go_wp2_with fail
        refine (awake_calls _).mono ?_
        rintro e w6 ⟨rfl, hb⟩
        have H2 := Aside.mk (HT1.out.next hb)
        clear hb
        go_wp2
        go_ret
        exact ⟨rfl, H2.out.q.below⟩
      | true =>
        have HW := Aside.mk (HF.out.1 rfl)
        clear HF
        have b0 : w4.cell? ⟨wr.heap.size, 0, none⟩ = some (.int .i64 o.ask) := HB1.out.cell 0
        have b1 : w4.cell? ⟨wr.heap.size, 1, none⟩ = some (.int .i64 o.i) := HB1.out.cell 1
        have b2 : w4.cell? ⟨wr.heap.size, 2, none⟩ = some (.slice o.a o.len o.cap) := HB1.out.cell 2
        have hwk : IntKind.i64.wrap ((k : Int) + 1) = (k : Int) + 1 := IntWalk.i64_in _ (by omega)
        rcases (show o.ask = 0 ∨ (o.ask = 1 ∧ s.all = 0) ∨ (o.ask = 1 ∧ s.all ≠ 0) ∨ (o.ask ≠ 0 ∧ o.ask ≠ 1) by omega) with hask | ⟨hask, hall⟩ | ⟨hask, hall⟩ | ⟨hask, hask1⟩
        · have hd0 : decide (o.ask = 0) = true := decide_eq_true hask
          have HT2 := Aside.mk (HT1.out.drewN 1)
          have HB2 : Aside (Blk (w4.drewN 1) wr.heap.size 38 #[.int .i64 o.ask, .int .i64 o.i, .slice o.a o.len o.cap]) := ⟨HB1.out⟩
          have HS2 := Aside.mk (src_of2 (HX.out.below HT2.out.q.below))
          have HEN := Aside.mk (HO.out.t.rel.pushed o.i (texts o.len o.L))
          have HPO := Aside.mk (St.pushed_ok HT2.out.q.ok o.i (texts o.len o.L))
          have HPM := Aside.mk (St.pushed_many s o.i (texts o.len o.L))
          go_wp2_with fail
          go_region_held3 (fun w' => w'.cell? ⟨wr.heap.size, 1, none⟩ = some (.int .i64 o.i) ∧ w'.cell? ⟨wr.heap.size, 2, none⟩ = some (.slice o.a o.len o.cap))
            (first
              | go_keep
              | exact ⟨HBZ.out.cell 1, HBZ.out.cell 2⟩
              | exact ⟨HBX.out.cell 1, HBX.out.cell 2⟩)
            (first
              | (go_at_call 11; refine (push_any _ s _ _ _ _ (texts o.len o.L) _ (by exact HT2.out.q.held) HT2.out.q.ok (by exact HS2.out) HOL.out).mono ?_; rintro e w5 ⟨rfl, hp⟩; have HX1 := Aside.mk (HT2.out.queue hp HPO.out); have HBX := Aside.mk (box_put HT2.out.q.held HB2.out hp); clear hp)
              | (go_at_call 17; refine (rpush_any _ r _ _ _ _ o.L _ HX1.out.rh (by have := HT1.out.len; omega) (by have := HW.out.1; omega) (HX.out.below HX1.out.q.below) (fun hm ad ha hmine => absurd (HX1.out.mr _ hmine) (by have := HX.out.lt hm ad ha; omega))).mono ?_; rintro e wz ⟨rfl, hp⟩; have HZ := Aside.mk (HX1.out.ref hp HEN.out.2); have HBZ := Aside.mk (box_rput HX1.out.rh HBX.out hp); clear hp; rw [HEN.out.1]))
          have HZA : Aside (PlAny w wz w.heap.size w1.heap.size m d) := ⟨⟨_, _, HZ.out, HPM.out.1.trans HO.out.m, HPM.out.2.trans HO.out.d⟩⟩
          clear HT2 HB2 HS2 HEN HPO HPM HX1 HBX HZ HBZ HB1 HT1 b0 b1 b2
          go_wp2_with fail
          obtain ⟨s', r', hz⟩ := HZA.out
          have HZ := Aside.mk hz
          clear hz HZA
          go_loop [19] (fun i => ∃ q : Nat, q ≤ m + 2 ∧ i = .int .i64 ((q : Int) - 1)) (fun i => (m + 2) - (intOf i + 1).toNat)
          case atStart => exact ⟨0, by omega, rfl⟩
          case round =>
            obtain ⟨q, hq, rfl⟩ := hrel
            by_cases hlt : q ≤ m + 1
            · have hq1 : (q : Int) - 1 ≤ m := by omega
              have hwq : IntKind.i64.wrap (q : Int) = q := IntWalk.i64_in _ (by have := HD.out; omega)
              have hwq2 : IntKind.i64.wrap ((q : Int) - 1 + 1) = (q : Int) - 1 + 1 := IntWalk.i64_in _ (by have := HD.out; omega)
              go_wp2_with (first
                | (go_at_call 14; refine (in_len HZ.out.t.q _).mono ?_; rintro e w' ⟨rfl, rfl⟩)
                | (go_at_call 21; refine (rlen_calls _ r' _ _ HZ.out.t.rh (by have := HZ.out.t.len; omega)).mono ?_; rintro e w' ⟨rfl, rfl⟩; rw [← HZ.out.t.rel.lenI HZ.out.t.q.ok]))
              exact ⟨⟨q + 1, by omega, by simp⟩, by simp [intOf]; omega⟩
            · have hq1 : ¬ (q : Int) - 1 ≤ m := by omega
              obtain ⟨A, c, h0, _⟩ := HZ.out.t.rh.lists
              have HL : Aside (∀ n, Calls Try.prog 15 #[.pointer (some ⟨w.heap.size, 0, none⟩)] (wz.drewN n) fun e w' => e = .returned (.int .i64 r'.l.length) ∧ w' = wz.drewN n) := ⟨fun n => by
                refine (in_all (HZ.out.t.q.drewN n)).mono ?_
                rintro e w' ⟨rfl, rfl⟩
                exact ⟨by rw [HZ.out.t.rel.all HZ.out.t.q.ok], rfl⟩⟩
              go_wp2_with fail
              go_quiet ((go_at_call 15; exact Calls.quiet_of_same (HL.out _)))
              have HZ2 : Aside (PlAny w (wz.drewN nq) w.heap.size w1.heap.size m d) := ⟨⟨_, _, HZ.out.t.drewN nq, HZ.out.m, HZ.out.d⟩⟩
              go_wp2
              exact ⟨⟨k + 1, by omega, by omega, by simp, HZ2⟩, by simp [intOf]; omega⟩
        have hn0 : ¬ o.ask = 0 := by omega
        skip
        have HRN : Aside (r.l = []) := ⟨List.eq_nil_of_length_eq_zero (by rw [← HO.out.t.rel.all HT1.out.q.ok]; exact hall)⟩
        have HALL := Aside.mk hall
        clear hall
        go_wp2_with fail
        refine (in_empty HT1.out.q HALL.out).mono ?_
        rintro e w5 ⟨rfl, rfl⟩
        go_wp2_with fail
        refine (rpop_empty _ r _ HT1.out.rh HRN.out).mono ?_
        rintro e w5 ⟨rfl, rfl⟩
        have HZA : Aside (PlAny w w4 w.heap.size w1.heap.size m d) := ⟨⟨_, _, HT1.out, HO.out.m, HO.out.d⟩⟩
        clear HB1 HT1 b0 b1 b2 HALL HRN
        generalize w4 = wz at HZA ⊢
        go_wp2_with fail
        rotate_left
        have hn0 : ¬ o.ask = 0 := by omega
        skip
        obtain ⟨dd, T, hnx⟩ := exists_next HT1.out.q.ok hall
        obtain ⟨l1, x, l2, hl, hl1⟩ := first_of (l := r.l) (T := T) (by rw [← HO.out.t.rel.l]; exact hnx.has)
        have HNX := Aside.mk hnx
        have HL := Aside.mk hl
        have HL1 := Aside.mk hl1
        have HRP := Aside.mk (HO.out.t.rel.pop hl hl1)
        clear hall hnx hl hl1
        go_wp2_with fail
        refine (pop_calls _ s dd T x _ _ HT1.out.q.held HT1.out.q.ok HNX.out HRP.out.1).mono ?_
        rintro e w5 ⟨rfl, hp⟩
        have HX1 := Aside.mk (HT1.out.queue hp (St.pop_ok HT1.out.q.ok))
        clear hp
        go_wp2_with fail
        refine (rpop_calls _ r dd T x l1 l2 _ HX1.out.rh (by have := HT1.out.len; omega) (HO.out.t.rel.next HT1.out.q.ok HNX.out) HL.out HL1.out).mono ?_
        rintro e wz ⟨rfl, hp⟩
        have HZA : Aside (PlAny w wz w.heap.size w1.heap.size m d) := ⟨⟨_, _, HX1.out.ref hp HRP.out.2, HO.out.m, HO.out.d⟩⟩
        clear hp HX1 HB1 HT1 b0 b1 b2 HNX HL HL1 HRP
        go_wp2_with fail
        rotate_left
        have hn0 : ¬ o.ask = 0 := by omega
        have hn1 : ¬ o.ask = 1 := by omega
        clear hask hask1
        go_wp2_with fail
        refine (clear_calls _ s _ HT1.out.q.held).mono ?_
        rintro e w5 ⟨rfl, hp⟩
        have HX1 := Aside.mk (HT1.out.queue hp (St.fresh_ok ⟨HT1.out.q.ok.m0, HT1.out.q.ok.m1, HT1.out.q.ok.d0, HT1.out.q.ok.d1⟩))
        clear hp
        go_wp2_with fail
        refine (rclear_calls _ r _ HX1.out.rh).mono ?_
        rintro e wz ⟨rfl, hp⟩
        have HZA : Aside (PlAny w wz w.heap.size w1.heap.size m d) := ⟨⟨_, _, HX1.out.ref hp (HO.out.t.rel.clear rfl rfl rfl rfl), HO.out.m, HO.out.d⟩⟩
        clear hp HX1 HB1 HT1 b0 b1 b2
        go_wp2_with fail
        rotate_left
        all_goals
          obtain ⟨s', r', hz⟩ := HZA.out
          have HZ := Aside.mk hz
          clear hz HZA
          go_loop [19] (fun i => ∃ q : Nat, q ≤ m + 2 ∧ i = .int .i64 ((q : Int) - 1)) (fun i => (m + 2) - (intOf i + 1).toNat)
          case atStart => exact ⟨0, by omega, rfl⟩
          case round =>
            obtain ⟨q, hq, rfl⟩ := hrel
            by_cases hlt : q ≤ m + 1
            · have hq1 : (q : Int) - 1 ≤ m := by omega
              have hwq : IntKind.i64.wrap (q : Int) = q := IntWalk.i64_in _ (by have := HD.out; omega)
              have hwq2 : IntKind.i64.wrap ((q : Int) - 1 + 1) = (q : Int) - 1 + 1 := IntWalk.i64_in _ (by have := HD.out; omega)
              go_wp2_with (first
                | (go_at_call 14; refine (in_len HZ.out.t.q _).mono ?_; rintro e w' ⟨rfl, rfl⟩)
                | (go_at_call 21; refine (rlen_calls _ r' _ _ HZ.out.t.rh (by have := HZ.out.t.len; omega)).mono ?_; rintro e w' ⟨rfl, rfl⟩; rw [← HZ.out.t.rel.lenI HZ.out.t.q.ok]))
              exact ⟨⟨q + 1, by omega, by simp⟩, by simp [intOf]; omega⟩
            · have hq1 : ¬ (q : Int) - 1 ≤ m := by omega
              obtain ⟨A, c, h0, _⟩ := HZ.out.t.rh.lists
              have HL : Aside (∀ n, Calls Try.prog 15 #[.pointer (some ⟨w.heap.size, 0, none⟩)] (wz.drewN n) fun e w' => e = .returned (.int .i64 r'.l.length) ∧ w' = wz.drewN n) := ⟨fun n => by
                refine (in_all (HZ.out.t.q.drewN n)).mono ?_
                rintro e w' ⟨rfl, rfl⟩
                exact ⟨by rw [HZ.out.t.rel.all HZ.out.t.q.ok], rfl⟩⟩
              go_wp2_with fail
              go_quiet ((go_at_call 15; exact Calls.quiet_of_same (HL.out _)))
              have HZ2 : Aside (PlAny w (wz.drewN nq) w.heap.size w1.heap.size m d) := ⟨⟨_, _, HZ.out.t.drewN nq, HZ.out.m, HZ.out.d⟩⟩
              go_wp2
              exact ⟨⟨k + 1, by omega, by omega, by simp, HZ2⟩, by simp [intOf]; omega⟩
    · have hcase : (¬ (k : Int) < len) ∨ ((k : Int) < len ∧ ¬ (k : Int) < 100) := by omega
      clear hin
      obtain ⟨s, r, hO⟩ := HR.out
      have HO := Aside.mk hO
      clear hO HR
      rcases hcase with hk1 | ⟨hk1, hk2⟩
      all_goals
        go_wp2_with fail
        refine (awake_calls _).mono ?_
        rintro e w6 ⟨rfl, hb⟩
        have H2 := Aside.mk (HO.out.t.next hb)
        clear hb
        go_wp2
        go_ret
        exact ⟨rfl, H2.out.q.below⟩
end Go.Proofs.Ytjhpeelgehchiaa
