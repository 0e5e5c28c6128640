/- A writer and a reader of bytes, the sum of sixteen bits, the check sum, a text sealed and opened. Conditions: those of each lemma, none else. -/
import Derived.Test.YtdgjcjhicbgfaaaGreatMa
import Derived.Test.YtdgjcjhicbgfaaaGreatMb
import Derived.Lib.BufSteps
import Derived.Lib.BufStepsIn
import Derived.Laws.IdiomStrings
import Derived.Lib.EndianBits
import Derived.Test.YtdgjcjhicbgfaaaGreatMd
import Derived.Lib.AppendZeros
set_option linter.unusedVariables false
set_option linter.unusedSimpArgs false

/- The writer of bytes: what each of its functions does. Conditions: the numbers fit. -/
section
namespace Go.Proofs.YtdgjcjhicbgfaaaGreat
open Go.RowKit Go.Lib
set_option linter.unusedVariables false
set_option linter.unusedSimpArgs false
set_option maxRecDepth 20000

theorem fits_calls (n b : Int) (w : World) (h0 : 0 ≤ n) (hb : b = 8 ∧ n < 256 ∨ b = 16 ∧ n < 65536) : Calls Tryz.prog 145 #[.int .i64 n, .int .i64 b] w fun e w' => e = .returned (.bool true) ∧ w = w' := by
  rcases hb with ⟨rfl, hn⟩ | ⟨rfl, hn⟩
  · have hz : (n / 256 == 0) = true := by rw [beq_iff_eq]; omega
    have HZ := Aside.mk hz
    clear hz
    go_enter Tryz.func145, Tryz.ntmps145
    go_wp2
    go_ret
    exact ⟨by rw [← HZ.out]; rfl, rfl⟩
  · have hz : (n / 65536 == 0) = true := by rw [beq_iff_eq]; omega
    have HZ := Aside.mk hz
    clear hz
    go_enter Tryz.func145, Tryz.ntmps145
    go_wp2
    go_ret
    exact ⟨by rw [← HZ.out]; rfl, rfl⟩
/-- A writer in a block of its own: what has been written. -/
structure Wr (B p : Nat) (bs : List UInt8) (w : World) : Prop where
  mk :: (out : ∃ v, Blk w p 244 #[v, .bool false] ∧ w.ownsRowF B 5 1 v bs.length (byteCells bs) ∧ v.ownBlock ≠ some p ∧ B ≤ p)
theorem u8info : (Tryz.prog.info? 5).map (fun i => (i.zero, i.size, i.bytes)) = some (some (.int .u8 0), 1, 1) := by kernel_rfl
theorem under45 : Tryz.prog.underlying 45 = some (.slice 5) := by kernel_rfl
/-- All that a step of a writer keeps. -/
structure WrAt (B p : Nat) (bs : List UInt8) (w w' : World) : Prop where
  wr : Wr B p bs w'
  below : Below B w w'
  size : B ≤ w'.heap.size
theorem WrAt.set {B p : Nat} {bs : List UInt8} {w w' : World} (h : WrAt B p bs w w') : WrAt B p bs w (w'.setCell ⟨p, 1, none⟩ (.bool false)) := by
  obtain ⟨v, hb, ho, hv, hp⟩ := h.wr.out
  refine ⟨⟨v, hb.set 1 (.bool false), ho.kept (row := some p) ?_ ?_, hv, hp⟩, ?_, ?_⟩
  · exact ⟨rfl, rfl, rfl, by simp [World.setCell], fun k _ hk => Below.heap_setCell _ _ _ _ (fun e => hk (by rw [e]))⟩
  · exact .inr hv
  · exact ⟨h.below.os, h.below.tape, h.below.output, by have := h.below.size; simpa [World.setCell] using this, fun k hk => (Below.heap_setCell _ _ _ _ (by simp; omega)).trans (h.below.block k hk)⟩
  · have := h.size; simpa [World.setCell] using this
theorem append_wr {B p : Nat} {bs ys : List UInt8} {w w1 w' : World} {v v' : Value} (h : WrAt B p bs w w1) (hc : w1.cell? ⟨p, 0, none⟩ = some v) (ho : w'.ownsRowF B 5 1 v' (bs ++ ys).length (byteCells (bs ++ ys))) (hg : w1.grownBy w' v.ownBlock) (hbl : v'.ownBlock ≠ some p) : WrAt B p (bs ++ ys) w (w'.setCell ⟨p, 0, none⟩ v') := by
  obtain ⟨v0, hb, ho0, hv, hp⟩ := h.wr.out
  have : v0 = v := by
    have := hb.cell 0
    rw [hc] at this
    simpa using this.symm
  subst this
  have hb' : Blk w' p 244 #[v0, .bool false] := (hg.block p hb.lt (fun e => hv e.symm)).trans hb
  have hbel : Below B w w' := h.below.grown hg h.size (fun k hk => (ho0.lt k hk).1)
  refine ⟨⟨v', hb'.set 0 v', ho.kept (row := some p) ?_ ?_, hbl, hp⟩, ?_, ?_⟩
  · exact ⟨rfl, rfl, rfl, by simp [World.setCell], fun k _ hk => Below.heap_setCell _ _ _ _ (fun e => hk (by rw [e]))⟩
  · exact .inr hbl
  · exact ⟨hbel.os, hbel.tape, hbel.output, by have := hbel.size; simpa [World.setCell] using this, fun k hk => (Below.heap_setCell _ _ _ _ (by simp; omega)).trans (hbel.block k hk)⟩
  · have := hg.size; have := h.size; simp [World.setCell]; omega
theorem owns_slice {w : World} {B : Nat} {e : TypeId} {v : Value} {n : Nat} {xs : List Value} (h : w.ownsRowF B e 1 v n xs) : ∃ A c, v = .slice A n c := by
  rcases h.2 with ⟨rfl, rfl⟩ | ⟨g, cap, cur, fz, rfl, _⟩
  · exact ⟨_, _, rfl⟩
  · exact ⟨_, _, rfl⟩
theorem wpList_wr_byte {ops : Array Oper} {rest : List Oper} {o : Oper} {a : Act} {Q : Exit → Act → World → Prop} (hgd : o.guard = none) (s x : Operand)
    (ho : o.op = .call { callee := .builtin .append, args := #[s, x], argTypes := #[45, 45] })
    {B p : Nat} {bs : List UInt8} {w wr : World} (h : WrAt B p bs w wr) (hl : bs.length ≤ 5000) {v : Value} (hs : a.eval s = v) (hc : wr.cell? ⟨p, 0, none⟩ = some v) (c : Int) (y : UInt8) (hy : c = y.toNat) (hx : a.eval x = .slice (some ⟨wr.heap.size, 0, none⟩) 1 1)
    (k : ∀ A m q w1, w1.cell? ⟨p, 0, none⟩ = some v → w1.frozen? ⟨p, 0, none⟩ = false → WrAt B p (bs ++ [y]) w (w1.setCell ⟨p, 0, none⟩ (.slice A m q)) → wpList Tryz.prog ops Q rest (a.put o.dst (.slice A m q)) w1) : wpList Tryz.prog ops Q (o :: rest) a (wr.alloc (.cells #[.int .u8 c] 5)) := by
  obtain ⟨i, hi, hz⟩ := Option.map_eq_some_iff.1 u8info
  simp only [Prod.mk.injEq] at hz
  obtain ⟨hz0, hz1, hz2⟩ := hz
  obtain ⟨v0, hb, ho0, hv, hp⟩ := h.wr.out
  have : v0 = v := by
    have := hb.cell 0
    rw [hc] at this
    simpa using this.symm
  subst this
  refine wpList_append_ownF _ hgd s x 45 ho B 5 i (.int .u8 0) 1 1 under45 hi hz0 hz1 hz2 rfl (by decide) v0 bs.length (byteCells bs) hs (ho0.alloc _) ⟨wr.heap.size, 0, none⟩ 1 1 [.int .u8 c] hx rfl ?_ ?_ (by unfold maxLen; omega) (by omega) (by have := h.size; simp; omega) ?_
  · intro j u hj
    match j, hj with
    | 0, hj => simp at hj; subst hj; simp [Addr.add]
    | (j + 1), hj => simp at hj
  · intro u hu; simp at hu; subst hu; rfl
  · intro v' w' ho' hg _
    have hg2 : wr.grownBy w' v0.ownBlock := ⟨hg.os, hg.tape, hg.output, by have := hg.size; simp at this; omega, fun i hi hne => (hg.block i (by simp; omega) hne).trans (Below.heap_alloc _ _ _ hi)⟩
    have hb' : Blk w' p 244 #[v0, .bool false] := (hg2.block p hb.lt (fun e => hv e.symm)).trans hb
    have e : byteCells bs ++ [Value.int .u8 c] = byteCells (bs ++ [y]) := by rw [byteCells_append, hy]; rfl
    rw [e] at ho'
    obtain ⟨A, q, rfl⟩ := owns_slice ho'
    refine k A _ q w' (hb'.cell 0) (hb'.frozen 0) (append_wr h hc (by rw [List.length_append]; exact ho') hg2 (ownBlock_neF ho' hb' (by decide)))
theorem wpList_wr_text {ops : Array Oper} {rest : List Oper} {o : Oper} {a : Act} {Q : Exit → Act → World → Prop} (hgd : o.guard = none) (s x : Operand)
    (ho : o.op = .call { callee := .builtin .append, args := #[s, x], argTypes := #[45, 9] })
    {B p : Nat} {bs : List UInt8} {w wr : World} (h : WrAt B p bs w wr) {v : Value} (hs : a.eval s = v) (hc : wr.cell? ⟨p, 0, none⟩ = some v) (t : ByteArray) (hx : a.eval x = .string t) (hl : bs.length + t.size ≤ 5000)
    (k : ∀ A m q w1, w1.cell? ⟨p, 0, none⟩ = some v → w1.frozen? ⟨p, 0, none⟩ = false → WrAt B p (bs ++ t.data.toList) w (w1.setCell ⟨p, 0, none⟩ (.slice A m q)) → wpList Tryz.prog ops Q rest (a.put o.dst (.slice A m q)) w1) : wpList Tryz.prog ops Q (o :: rest) a wr := by
  obtain ⟨i, hi, hz⟩ := Option.map_eq_some_iff.1 u8info
  simp only [Prod.mk.injEq] at hz
  obtain ⟨hz0, hz1, hz2⟩ := hz
  obtain ⟨v0, hb, ho0, hv, hp⟩ := h.wr.out
  have : v0 = v := by
    have := hb.cell 0
    rw [hc] at this
    simpa using this.symm
  subst this
  refine wpList_append_own_stringF _ hgd s x 45 9 ho B 5 i under45 (by kernel_rfl) hi hz0 hz1 hz2 v0 bs.length (byteCells bs) hs ho0 t hx (by unfold maxLen; omega) (by omega) h.size ?_
  intro v' w' ho' hg _
  have hb' : Blk w' p 244 #[v0, .bool false] := (hg.block p hb.lt (fun e => hv e.symm)).trans hb
  rw [strCells_eq, ← byteCells_append] at ho'
  have e : bs.length + t.size = (bs ++ t.data.toList).length := by rw [List.length_append, Array.length_toList]; rfl
  rw [e] at ho'
  obtain ⟨A, q, rfl⟩ := owns_slice ho'
  exact k A _ q w' (hb'.cell 0) (hb'.frozen 0) (append_wr h hc ho' hg (ownBlock_neF ho' hb' (by decide)))
set_option maxHeartbeats 1000000 in
theorem put8_calls (B p : Nat) (bs : List UInt8) (n : Int) (w : World) (h : Wr B p bs w) (h0 : 0 ≤ n) (hn : n < 256) (hl : bs.length ≤ 4000) (hB : B ≤ w.heap.size) :
    Calls Tryz.prog 143 #[.pointer (some ⟨p, 0, none⟩), .int .i64 n, .int .i64 8] w fun e w' => e = .returned (.tuple #[]) ∧ WrAt B p (bs ++ [UInt8.ofNat n.toNat]) w w' := by
  have HW : Aside (WrAt B p bs w w) := ⟨h, Below.refl _ _, hB⟩
  have HW2 := Aside.mk HW.out.set
  obtain ⟨v, hb, ho, hv, hp⟩ := h.out
  have c0 : w.cell? ⟨p, 0, none⟩ = some v := hb.cell 0
  have c1 : w.cell? ⟨p, 1, none⟩ = some (.bool false) := hb.cell 1
  have f0 := hb.frozen 0
  have f1 := hb.frozen 1
  have HL := Aside.mk hl
  have HY : Aside (n = (UInt8.ofNat n.toNat).toNat) := ⟨by simp; omega⟩
  clear h hb ho hv hl hB hp
  go_enter Tryz.func143, Tryz.ntmps143
  go_wp2_with (go_at_call 145; refine (fits_calls _ _ _ h0 (.inl ⟨rfl, hn⟩)).mono ?_; rintro e w' ⟨rfl, rfl⟩)
  generalize w.setCell ⟨p, 1, none⟩ (.bool false) = w1 at *
  go_loopw [6] (fun i wr => i = .int .i64 0 ∧ Aside (WrAt B p bs w wr) ∨ i = .int .i64 (-8) ∧ Aside (WrAt B p (bs ++ [UInt8.ofNat n.toNat]) w wr)) (fun i _ => (intOf i + 8).toNat)
  case atStart => exact .inl ⟨rfl, HW2⟩
  case round =>
    rcases hrel with ⟨rfl, HW3⟩ | ⟨rfl, HW3⟩
    · obtain ⟨v, hb, ho, hv, hp⟩ := HW3.out.wr.out
      have c0 : wr.cell? ⟨p, 0, none⟩ = some v := hb.cell 0
      have f0 := hb.frozen 0
      have C0 := Aside.mk c0
      clear hb ho hv hp
      go_wp2_with (at_builtin; refine wpList_wr_byte (v := v) rfl (.tmp 36) (.tmp 43) rfl HW3.out (by have := HL.out; omega) rfl C0.out _ _ HY.out rfl ?_; intro A m q w1 d0 g0 HW4; have HW5 := Aside.mk HW4; clear HW4)
      go_round
      case rel => exact .inr ⟨rfl, HW5⟩
      case measure => simp [intOf]
    · go_wp2
      go_end0
      exact ⟨rfl, HW3.out⟩
set_option maxHeartbeats 1000000 in
theorem put16_calls (B p : Nat) (bs : List UInt8) (n : Int) (w : World) (h : Wr B p bs w) (h0 : 0 ≤ n) (hn : n < 65536) (hl : bs.length ≤ 4000) (hB : B ≤ w.heap.size) :
    Calls Tryz.prog 143 #[.pointer (some ⟨p, 0, none⟩), .int .i64 n, .int .i64 16] w fun e w' => e = .returned (.tuple #[]) ∧ WrAt B p (bs ++ be16 n.toNat) w w' := by
  have HW : Aside (WrAt B p bs w w) := ⟨h, Below.refl _ _, hB⟩
  have HW2 := Aside.mk HW.out.set
  obtain ⟨v, hb, ho, hv, hp⟩ := h.out
  have c0 : w.cell? ⟨p, 0, none⟩ = some v := hb.cell 0
  have c1 : w.cell? ⟨p, 1, none⟩ = some (.bool false) := hb.cell 1
  have f0 := hb.frozen 0
  have f1 := hb.frozen 1
  have HL := Aside.mk hl
  have HY : Aside (n / 256 = (UInt8.ofNat (n.toNat / 256)).toNat) := ⟨by simp; omega⟩
  have HY2 : Aside (n % 256 = (UInt8.ofNat n.toNat).toNat) := ⟨by simp; omega⟩
  have hd0 : 0 ≤ n / 256 := by omega
  have hd1 : n / 256 < 256 := by omega
  clear h hb ho hv hl hB hp
  go_enter Tryz.func143, Tryz.ntmps143
  go_wp2_with (go_at_call 145; refine (fits_calls _ _ _ h0 (.inr ⟨rfl, hn⟩)).mono ?_; rintro e w' ⟨rfl, rfl⟩)
  generalize w.setCell ⟨p, 1, none⟩ (.bool false) = w1 at *
  go_loopw [6] (fun i wr => i = .int .i64 8 ∧ Aside (WrAt B p bs w wr) ∨ i = .int .i64 0 ∧ Aside (WrAt B p (bs ++ [UInt8.ofNat (n.toNat / 256)]) w wr) ∨ i = .int .i64 (-8) ∧ Aside (WrAt B p (bs ++ be16 n.toNat) w wr)) (fun i _ => (intOf i + 8).toNat)
  case atStart => exact .inl ⟨rfl, HW2⟩
  case round =>
    rcases hrel with ⟨rfl, HW3⟩ | ⟨rfl, HW3⟩ | ⟨rfl, HW3⟩
    · obtain ⟨v, hb, ho, hv, hp⟩ := HW3.out.wr.out
      have c0 : wr.cell? ⟨p, 0, none⟩ = some v := hb.cell 0
      have f0 := hb.frozen 0
      have C0 := Aside.mk c0
      clear hb ho hv hp
      go_wp2_with (at_builtin; refine wpList_wr_byte (v := v) rfl (.tmp 36) (.tmp 43) rfl HW3.out (by have := HL.out; omega) rfl C0.out _ _ HY.out rfl ?_; intro A m q w1 d0 g0 HW4; have HW5 := Aside.mk HW4; clear HW4)
      go_round
      case rel => exact .inr (.inl ⟨rfl, HW5⟩)
      case measure => simp [intOf]
    · obtain ⟨v, hb, ho, hv, hp⟩ := HW3.out.wr.out
      have c0 : wr.cell? ⟨p, 0, none⟩ = some v := hb.cell 0
      have f0 := hb.frozen 0
      have C0 := Aside.mk c0
      clear hb ho hv hp
      go_wp2_with (at_builtin; refine wpList_wr_byte (v := v) rfl (.tmp 36) (.tmp 43) rfl HW3.out (by have := HL.out; simp; omega) rfl C0.out _ _ HY2.out rfl ?_; intro A m q w1 d0 g0 HW4; have HW5 := Aside.mk HW4; clear HW4)
      go_round
      case rel => exact .inr (.inr ⟨rfl, by rw [List.append_assoc] at HW5; exact HW5⟩)
      case measure => simp [intOf]
    · go_wp2
      go_end0
      exact ⟨rfl, HW3.out⟩
end Go.Proofs.YtdgjcjhicbgfaaaGreat
end

/- The writer of bytes, further: numbers, texts, what has been written. Conditions: the numbers fit. -/
section
namespace Go.Proofs.YtdgjcjhicbgfaaaGreat
open Go.RowKit Go.Lib
set_option linter.unusedVariables false
set_option linter.unusedSimpArgs false
set_option maxRecDepth 20000

def strOf (l : List UInt8) : Value := .string ⟨l.toArray⟩
theorem wr8_calls (B p : Nat) (bs : List UInt8) (n : Int) (w : World) (h : Wr B p bs w) (h0 : 0 ≤ n) (hn : n < 256) (hl : bs.length ≤ 4000) (hB : B ≤ w.heap.size) :
    Calls Tryz.prog 105 #[.pointer (some ⟨p, 0, none⟩), .int .i64 n] w fun e w' => e = .returned (.tuple #[]) ∧ WrAt B p (bs ++ [UInt8.ofNat n.toNat]) w w' := by
  have H := Aside.mk h
  have HL := Aside.mk hl
  have HB := Aside.mk hB
  clear h hl hB
  go_enter Tryz.func105, Tryz.ntmps105
  go_wp2_with (go_at_call 143; refine (put8_calls _ _ _ _ _ H.out h0 hn HL.out HB.out).mono ?_; rintro e w' ⟨rfl, h1⟩; have H1 := Aside.mk h1; clear h1)
  go_end0
  exact ⟨rfl, H1.out⟩
theorem wr16_calls (B p : Nat) (bs : List UInt8) (n : Int) (w : World) (h : Wr B p bs w) (h0 : 0 ≤ n) (hn : n < 65536) (hl : bs.length ≤ 4000) (hB : B ≤ w.heap.size) :
    Calls Tryz.prog 98 #[.pointer (some ⟨p, 0, none⟩), .int .i64 n] w fun e w' => e = .returned (.tuple #[]) ∧ WrAt B p (bs ++ be16 n.toNat) w w' := by
  have H := Aside.mk h
  have HL := Aside.mk hl
  have HB := Aside.mk hB
  clear h hl hB
  go_enter Tryz.func98, Tryz.ntmps98
  go_wp2_with (go_at_call 143; refine (put16_calls _ _ _ _ _ H.out h0 hn HL.out HB.out).mono ?_; rintro e w' ⟨rfl, h1⟩; have H1 := Aside.mk h1; clear h1)
  go_end0
  exact ⟨rfl, H1.out⟩
theorem wrText_calls (B p : Nat) (bs : List UInt8) (t : ByteArray) (w : World) (h : Wr B p bs w) (hl : bs.length + t.size ≤ 5000) (hB : B ≤ w.heap.size) :
    Calls Tryz.prog 101 #[.pointer (some ⟨p, 0, none⟩), .string t] w fun e w' => e = .returned (.tuple #[]) ∧ WrAt B p (bs ++ t.data.toList) w w' := by
  have HW3 : Aside (WrAt B p bs w w) := ⟨h, Below.refl _ _, hB⟩
  obtain ⟨v, hb, ho, hv, hp⟩ := h.out
  have c0 : w.cell? ⟨p, 0, none⟩ = some v := hb.cell 0
  have c1 : w.cell? ⟨p, 1, none⟩ = some (.bool false) := hb.cell 1
  have f0 := hb.frozen 0
  have HL := Aside.mk hl
  have C0 := Aside.mk c0
  clear h hb ho hv hl hB hp
  go_enter Tryz.func101, Tryz.ntmps101
  go_wp2_with (at_builtin; refine wpList_wr_text (v := v) rfl (.tmp 17) (.tmp 18) rfl HW3.out rfl C0.out _ rfl HL.out ?_; intro A m q w1 d0 g0 HW4; have HW5 := Aside.mk HW4; clear HW4)
  go_end0
  exact ⟨rfl, HW5.out⟩
theorem wr_string {B p : Nat} {bs : List UInt8} {w : World} (h : Wr B p bs w) : ∃ A c, w.cell? ⟨p, 0, none⟩ = some (.slice A bs.length c) ∧ (convert 45 9 (.slice A bs.length c)).run Tryz.prog w = .ok (strOf bs) w := by
  obtain ⟨v, hb, ho, hv, hp⟩ := h.out
  rcases ho.2 with ⟨rfl, h0⟩ | ⟨g, cap, cur, fz, rfl, _⟩
  · have : bs = [] := List.eq_nil_of_length_eq_zero h0
    subst this
    refine ⟨none, 0, hb.cell 0, ?_⟩
    rw [run_convert_bytes_string w 45 9 5 none _ 0 under45 (by kernel_rfl) (by kernel_rfl)]
    simp [Conv.bytesToString, loadCells, loadCellsFrom, Sem.run_pure, strOf]
    rfl
  · refine ⟨some ⟨g, 0, none⟩, cap, hb.cell 0, ?_⟩
    refine run_convert_bytes_back w 45 9 5 ⟨g, 0, none⟩ cap bs under45 (by kernel_rfl) (by kernel_rfl) ?_
    intro j hj
    exact ho.cells rfl j _ (by unfold byteCells; simp [hj])
theorem wrBytes_calls (B p : Nat) (bs : List UInt8) (w : World) (h : Wr B p bs w) :
    Calls Tryz.prog 99 #[.pointer (some ⟨p, 0, none⟩)] w fun e w' => e = .returned (.tuple #[strOf bs, .int .i64 0]) ∧ w = w' := by
  obtain ⟨A, c, c0, hrun⟩ := wr_string h
  obtain ⟨v, hb, ho, hv, hp⟩ := h.out
  have c1 : w.cell? ⟨p, 1, none⟩ = some (.bool false) := hb.cell 1
  clear h hb ho hv hp
  unfold strOf at *
  go_enter Tryz.func99, Tryz.ntmps99
  go_wp2
  trace_state
  go_ret2
  exact ⟨rfl, rfl⟩
end Go.Proofs.YtdgjcjhicbgfaaaGreat
end

/- The writer of bytes: a word of parts that are nought. Conditions: the parts are those of a packet. -/
section
namespace Go.Proofs.YtdgjcjhicbgfaaaGreat
open Go.RowKit Go.Lib
set_option linter.unusedVariables false
set_option linter.unusedSimpArgs false
set_option maxRecDepth 20000

/-- Three whole numbers in a block. -/
structure Ints3 (w : World) (b : Nat) (x y z : Int) : Prop where
  c0 : w.cell? ⟨b, 0, none⟩ = some (.int .i64 x)
  c1 : w.cell? ⟨b, 1, none⟩ = some (.int .i64 y)
  c2 : w.cell? ⟨b, 2, none⟩ = some (.int .i64 z)
theorem cell_far {w : World} {b i p j : Nat} {v : Value} (hne : b ≠ p) : (w.setCell ⟨p, j, none⟩ v).cell? ⟨b, i, none⟩ = w.cell? ⟨b, i, none⟩ :=
  World.cell?_of_block (Below.heap_setCell w ⟨p, j, none⟩ v b hne)
theorem Ints3.set {w : World} {b p j : Nat} {x y z : Int} {v : Value} (h : Ints3 w b x y z) (hne : b ≠ p) : Ints3 (w.setCell ⟨p, j, none⟩ v) b x y z :=
  ⟨(cell_far hne).trans h.c0, (cell_far hne).trans h.c1, (cell_far hne).trans h.c2⟩
theorem fits0_calls (b : Int) (w : World) (hb : b = 2 ∨ b = 1 ∨ b = 13) : Calls Tryz.prog 145 #[.int .i64 0, .int .i64 b] w fun e w' => e = .returned (.bool true) ∧ w = w' := by
  rcases hb with rfl | rfl | rfl
  all_goals
    go_enter Tryz.func145, Tryz.ntmps145
    go_wp2
    go_ret
    exact ⟨rfl, rfl⟩
theorem sum_calls (b c : Nat) (w : World) (h : Ints3 w b 2 1 13) : Calls Tryz.prog 144 #[.slice (some ⟨b, 0, none⟩) 3 c] w fun e w' => e = .returned (.int .i64 16) ∧ w = w' := by
  obtain ⟨c0, c1, c2⟩ := h
  go_enter Tryz.func144, Tryz.ntmps144
  go_wp2
  go_loop [3, 8] (fun s i => s = .int .i64 0 ∧ i = .int .i64 0 ∨ s = .int .i64 2 ∧ i = .int .i64 1 ∨ s = .int .i64 3 ∧ i = .int .i64 2 ∨ s = .int .i64 16 ∧ i = .int .i64 3) (fun _ i => 3 - (intOf i).toNat)
  case atStart => exact .inl ⟨rfl, rfl⟩
  case round =>
    rcases hrel with ⟨rfl, rfl⟩ | ⟨rfl, rfl⟩ | ⟨rfl, rfl⟩ | ⟨rfl, rfl⟩
    · go_wp2
      go_round
      case rel => exact .inr (.inl ⟨rfl, rfl⟩)
      case measure => simp [intOf]
    · go_wp2
      go_round
      case rel => exact .inr (.inr (.inl ⟨rfl, rfl⟩))
      case measure => simp [intOf]
    · go_wp2
      go_round
      case rel => exact .inr (.inr (.inr ⟨rfl, rfl⟩))
      case measure => simp [intOf]
    · go_wp2
      go_ret
      exact ⟨rfl, rfl⟩
structure BitsAt (B p : Nat) (bs : List UInt8) (w wr : World) (b1 b2 : Nat) : Prop where
  at_ : WrAt B p bs w wr
  parts : Ints3 wr b1 2 1 13
  vals : Ints3 wr b2 0 0 0
theorem BitsAt.set {B p : Nat} {bs : List UInt8} {w wr : World} {b1 b2 : Nat} (h : BitsAt B p bs w wr b1 b2) (h1 : b1 ≠ p) (h2 : b2 ≠ p) : BitsAt B p bs w (wr.setCell ⟨p, 1, none⟩ (.bool false)) b1 b2 :=
  ⟨h.at_.set, h.parts.set h1, h.vals.set h2⟩
set_option maxHeartbeats 1000000 in
theorem wrBits_calls (B p : Nat) (bs : List UInt8) (b1 b2 q1 q2 : Nat) (w : World) (h : Wr B p bs w) (hp : Ints3 w b1 2 1 13) (hv : Ints3 w b2 0 0 0) (h1 : b1 ≠ p) (h2 : b2 ≠ p) (hl : bs.length ≤ 4000) (hB : B ≤ w.heap.size) :
    Calls Tryz.prog 106 #[.pointer (some ⟨p, 0, none⟩), .slice (some ⟨b1, 0, none⟩) 3 q1, .slice (some ⟨b2, 0, none⟩) 3 q2] w fun e w' => e = .returned (.tuple #[]) ∧ WrAt B p (bs ++ [0, 0]) w w' := by
  have HW3 : Aside (BitsAt B p bs w w b1 b2) := ⟨⟨h, Below.refl _ _, hB⟩, hp, hv⟩
  have HW4 := Aside.mk (HW3.out.set h1 h2)
  have HN := Aside.mk (And.intro h1 h2)
  have HP := Aside.mk hp
  have HL := Aside.mk hl
  obtain ⟨v, hb, ho, hv', hp'⟩ := h.out
  have c1 : w.cell? ⟨p, 1, none⟩ = some (.bool false) := hb.cell 1
  have f1 := hb.frozen 1
  clear hb ho hv' hp' h hp hv h1 h2 hl hB
  go_enter Tryz.func106, Tryz.ntmps106
  go_wp2_with (go_at_call 144; refine (sum_calls _ _ _ HP.out).mono ?_; rintro e w' ⟨rfl, rfl⟩)
  generalize w.setCell ⟨p, 1, none⟩ (.bool false) = w1 at *
  go_loopw [7, 38] (fun a i wr => a = .int .u64 0 ∧ ∃ k : Nat, k ≤ 3 ∧ i = .int .i64 k ∧ Aside (BitsAt B p bs w wr b1 b2)) (fun _ i _ => 3 - (intOf i).toNat)
  case atStart => exact ⟨rfl, 0, by omega, rfl, HW4⟩
  case round =>
    obtain ⟨rfl, k, hk, rfl, HW5⟩ := hrel
    have HW6 := Aside.mk (HW5.out.set HN.out.1 HN.out.2)
    obtain ⟨v, hb, ho, hv', hp'⟩ := HW5.out.at_.wr.out
    have f1 := hb.frozen 1
    have c9 : wr.cell? ⟨p, 1, none⟩ = some (.bool false) := hb.cell 1
    have n1 := HN.out.1
    have n2 := HN.out.1.symm
    obtain ⟨p0, p1, p2⟩ := HW5.out.parts
    obtain ⟨v0, v1, v2⟩ := HW5.out.vals
    clear hb ho hv' hp'
    have hk4 : k = 0 ∨ k = 1 ∨ k = 2 ∨ k = 3 := by omega
    rcases hk4 with rfl | rfl | rfl | rfl
    · go_wp2_with (go_at_call 145; refine (fits0_calls _ _ (.inl rfl)).mono ?_; rintro e w' ⟨rfl, rfl⟩)
      go_round
      case rel => exact ⟨rfl, 1, by omega, rfl, HW6⟩
      case measure => simp [intOf]
    · go_wp2_with (go_at_call 145; refine (fits0_calls _ _ (.inr (.inl rfl))).mono ?_; rintro e w' ⟨rfl, rfl⟩)
      go_round
      case rel => exact ⟨rfl, 2, by omega, rfl, HW6⟩
      case measure => simp [intOf]
    · go_wp2_with (go_at_call 145; refine (fits0_calls _ _ (.inr (.inr rfl))).mono ?_; rintro e w' ⟨rfl, rfl⟩)
      go_round
      case rel => exact ⟨rfl, 3, by omega, rfl, HW6⟩
      case measure => simp [intOf]
    · go_wp2_with (go_at_call 143; refine (put16_calls _ _ _ _ _ HW5.out.at_.wr (by decide) (by decide) HL.out HW5.out.at_.size).mono ?_; rintro e w' ⟨rfl, h7⟩; have H7 := Aside.mk h7; clear h7)
      go_end0
      exact ⟨rfl, H7.out.wr, HW5.out.at_.below.trans H7.out.below, H7.out.size⟩
end Go.Proofs.YtdgjcjhicbgfaaaGreat
end

/- The reader of bytes: what each of its functions does. Conditions: there is enough to read. -/
section
namespace Go.Proofs.YtdgjcjhicbgfaaaGreat
open Go.RowKit Go.Lib
set_option linter.unusedVariables false
set_option linter.unusedSimpArgs false
set_option maxRecDepth 20000

/-- A reader in a block of its own: what is still to be read. -/
def Rd (w : World) (p : Nat) (l : List UInt8) : Prop := Blk w p 362 #[strOf l, .int .i64 0]
theorem strOf_data (s : ByteArray) : strOf s.data.toList = .string s := by
  unfold strOf; simp
theorem read_calls (s : ByteArray) (w : World) : Calls Tryz.prog 147 #[.string s] w fun e w' => e = .returned (.pointer (some ⟨w.heap.size, 0, none⟩)) ∧ Rd w' w.heap.size s.data.toList ∧ Below w.heap.size w w' := by
  go_enter Tryz.func147, Tryz.ntmps147
  go_wp2
  go_ret
  refine ⟨rfl, ?_, (Below.refl _ _).alloc (Nat.le_refl _) _⟩
  unfold Rd
  rw [strOf_data]
  exact Blk.new _ _ _
theorem err_calls (p : Nat) (l : List UInt8) (w : World) (h : Rd w p l) : Calls Tryz.prog 169 #[.pointer (some ⟨p, 0, none⟩)] w fun e w' => e = .returned (.int .i64 0) ∧ w = w' := by
  have c1 : w.cell? ⟨p, 1, none⟩ = some (.int .i64 0) := h.cell 1
  clear h
  go_enter Tryz.func169, Tryz.ntmps169
  go_wp2
  go_ret
  exact ⟨rfl, rfl⟩
theorem left_calls (p : Nat) (l : List UInt8) (w : World) (h : Rd w p l) : Calls Tryz.prog 151 #[.pointer (some ⟨p, 0, none⟩)] w fun e w' => e = .returned (.int .i64 l.length) ∧ w = w' := by
  have c0 : w.cell? ⟨p, 0, none⟩ = some (strOf l) := h.cell 0
  unfold strOf at c0
  clear h
  go_enter Tryz.func151, Tryz.ntmps151
  go_wp2
  go_ret
  exact ⟨rfl, rfl⟩
theorem extract_pre (a b : List UInt8) : (ByteArray.mk (a ++ b).toArray).extract 0 a.length = ⟨a.toArray⟩ := by
  apply ByteArray.ext
  simp
theorem extract_suf (a b : List UInt8) (n : Nat) (h : n = (a ++ b).length) : (ByteArray.mk (a ++ b).toArray).extract a.length n = ⟨b.toArray⟩ := by
  apply ByteArray.ext
  subst h
  simp
set_option maxHeartbeats 1000000 in
theorem rText_calls (p : Nat) (a b : List UInt8) (w : World) (h : Rd w p (a ++ b)) (hl : (a ++ b).length ≤ 5000) : Calls Tryz.prog 150 #[.pointer (some ⟨p, 0, none⟩), .int .i64 a.length] w fun e w' => e = .returned (strOf a) ∧ Rd w' p b ∧ Upon (· = p) w w' := by
  have c0 : w.cell? ⟨p, 0, none⟩ = some (strOf (a ++ b)) := h.cell 0
  have f0 := h.frozen 0
  have H := Aside.mk h
  obtain ⟨s, hs⟩ : ∃ s : ByteArray, s = ⟨(a ++ b).toArray⟩ := ⟨_, rfl⟩
  have hz : s.size = a.length + b.length := by rw [hs]; simp [ByteArray.size]
  obtain ⟨n, hn⟩ : ∃ n, n = a.length := ⟨_, rfl⟩
  have HS := Aside.mk hs
  have HN := Aside.mk hn
  have hle : n ≤ s.size := by omega
  have hsz : s.size ≤ 5000 := by rw [hz]; simpa using hl
  have HZ := Aside.mk hz
  rw [← hn]
  unfold strOf at c0
  rw [← hs] at c0
  have he : ((n : Int) ≤ (s.size : Int)) := by omega
  clear h hs hn hz hl
  go_enter Tryz.func150, Tryz.ntmps150
  go_wp2_with (go_at_call 169; refine (err_calls _ _ _ H.out).mono ?_; rintro e w' ⟨rfl, rfl⟩)
  go_ret
  refine ⟨?_, ?_, (Upon.refl (· = p) w).setg rfl _ _⟩
  · show Ending.returned (.string (s.extract 0 n)) = _
    rw [HS.out, HN.out, extract_pre]
    rfl
  · have := H.out.set 0 (.string (s.extract n s.size))
    rw [HZ.out, HN.out, HS.out, extract_suf _ _ _ (by simp)] at this ⊢
    exact this
theorem conv_bytes (l : List UInt8) (w : World) : ∃ c w', (convert 9 45 (strOf l)).run Tryz.prog w = .ok (.slice (some ⟨w.heap.size, 0, none⟩) l.length c) w' ∧ Below w.heap.size w w' ∧ ∀ j (hj : j < l.length), w'.cell? ⟨w.heap.size, j, none⟩ = some (.int .u8 l[j].toNat) := by
  have hr := run_bytes_of_string (P := Tryz.prog) w 9 45 5 ⟨l.toArray⟩ (by kernel_rfl) under45 (by kernel_rfl)
  refine ⟨_, _, hr, ?_, ?_⟩
  · exact ⟨rfl, rfl, rfl, by simp, fun k hk => by
      show (w.heap.push _)[k]? = w.heap[k]?
      rw [Array.getElem?_push_lt hk, Array.getElem?_eq_getElem hk]⟩
  · intro j hj
    rw [show w.heap.size = w.drew.heap.size from rfl, World.cell?_alloc_mark, bytesRow_at _ _ _ (by simpa using hj)]
    simp
theorem or_byte (x y : Nat) (hx : x < 256) (hy : y < 256) : Go.bits .or .u32 ((x : Int) * 256) (y : Int) = (x * 256 + y : Nat) := by
  rw [bits_join .u32 32 (by decide) wraps_u32 8 _ _ (by omega) (by omega) (by omega) (by omega) (by omega) (by omega)]
  omega
theorem or_nought (y : Nat) (hy : y < 256) : Go.bits .or .u32 0 (y : Int) = (y : Nat) := by
  have := or_byte 0 y (by omega) hy
  simpa using this
set_option maxHeartbeats 1000000 in
theorem num8_calls (p : Nat) (x : UInt8) (b : List UInt8) (w : World) (h : Rd w p (x :: b)) (hl : b.length ≤ 4000) : Calls Tryz.prog 203 #[.pointer (some ⟨p, 0, none⟩), .int .i64 8] w fun e w' => e = .returned (.int .u32 x.toNat) ∧ Rd w' p b ∧ Upon (· = p) w w' := by
  have H := Aside.mk h
  have HL := Aside.mk hl
  clear h hl
  go_enter Tryz.func203, Tryz.ntmps203
  go_wp2_with (go_at_call 150; refine (rText_calls p [x] b _ H.out (by have := HL.out; simp; omega)).mono ?_; rintro e w1 ⟨rfl, h1, h2⟩; obtain ⟨c, w2, hr, hb, hc⟩ := conv_bytes [x] w1; have c0 := hc 0 (by simp); simp only [List.getElem_cons_zero] at c0; have H1 := Aside.mk h1; have H2 := Aside.mk h2; have H3 := Aside.mk hb; clear h1 h2 hb hc)
  have hx : x.toNat < 256 := x.toNat_lt
  clear hr
  go_loop [5, 14] (fun v i => v = .int .u32 0 ∧ i = .int .i64 0 ∨ v = .int .u32 x.toNat ∧ i = .int .i64 1) (fun _ i => 1 - (intOf i).toNat)
  case atStart => exact .inl ⟨rfl, rfl⟩
  case round =>
    rcases hrel with ⟨rfl, rfl⟩ | ⟨rfl, rfl⟩
    · go_wp2
      go_round
      case rel => exact .inr ⟨by rw [or_nought _ hx], rfl⟩
      case measure => simp [intOf]
    · go_wp2
      go_ret
      exact ⟨rfl, (H3.out.block p H1.out.lt).trans H1.out, H2.out.trans' (Upon.of_below H3.out) (fun i hi => .inl hi)⟩
set_option maxHeartbeats 1000000 in
theorem num16_calls (p : Nat) (x y : UInt8) (b : List UInt8) (w : World) (h : Rd w p (x :: y :: b)) (hl : b.length ≤ 4000) : Calls Tryz.prog 203 #[.pointer (some ⟨p, 0, none⟩), .int .i64 16] w fun e w' => e = .returned (.int .u32 (x.toNat * 256 + y.toNat : Nat)) ∧ Rd w' p b ∧ Upon (· = p) w w' := by
  have H := Aside.mk h
  have HL := Aside.mk hl
  clear h hl
  go_enter Tryz.func203, Tryz.ntmps203
  go_wp2_with (go_at_call 150; refine (rText_calls p [x, y] b _ H.out (by have := HL.out; simp; omega)).mono ?_; rintro e w1 ⟨rfl, h1, h2⟩; obtain ⟨c, w2, hr, hb, hc⟩ := conv_bytes [x, y] w1; have c0 := hc 0 (by simp); have c1 := hc 1 (by simp); simp only [List.getElem_cons_zero, List.getElem_cons_succ] at c0 c1; have H1 := Aside.mk h1; have H2 := Aside.mk h2; have H3 := Aside.mk hb; clear h1 h2 hb hc)
  have hx : x.toNat < 256 := x.toNat_lt
  have hy : y.toNat < 256 := y.toNat_lt
  clear hr
  go_loop [5, 14] (fun v i => v = .int .u32 0 ∧ i = .int .i64 0 ∨ v = .int .u32 x.toNat ∧ i = .int .i64 1 ∨ v = .int .u32 (x.toNat * 256 + y.toNat : Nat) ∧ i = .int .i64 2) (fun _ i => 2 - (intOf i).toNat)
  case atStart => exact .inl ⟨rfl, rfl⟩
  case round =>
    rcases hrel with ⟨rfl, rfl⟩ | ⟨rfl, rfl⟩ | ⟨rfl, rfl⟩
    · go_wp2
      go_round
      case rel => exact .inr (.inl ⟨by rw [or_nought _ hx], rfl⟩)
      case measure => simp [intOf]
    · go_wp2
      go_round
      case rel => exact .inr (.inr ⟨by rw [or_byte _ _ hx hy], rfl⟩)
      case measure => simp [intOf]
    · go_wp2
      go_ret
      exact ⟨rfl, (H3.out.block p H1.out.lt).trans H1.out, H2.out.trans' (Upon.of_below H3.out) (fun i hi => .inl hi)⟩
theorem r8_calls (p : Nat) (x : UInt8) (b : List UInt8) (w : World) (h : Rd w p (x :: b)) (hl : b.length ≤ 4000) : Calls Tryz.prog 152 #[.pointer (some ⟨p, 0, none⟩)] w fun e w' => e = .returned (.int .i64 x.toNat) ∧ Rd w' p b ∧ Upon (· = p) w w' := by
  have H := Aside.mk h
  have HL := Aside.mk hl
  have hx : x.toNat < 256 := x.toNat_lt
  clear h hl
  go_enter Tryz.func152, Tryz.ntmps152
  go_wp2_with (go_at_call 203; refine (num8_calls p x b _ H.out HL.out).mono ?_; rintro e w1 ⟨rfl, h1, h2⟩; have H1 := Aside.mk h1; have H2 := Aside.mk h2; clear h1 h2)
  go_ret
  exact ⟨rfl, H1.out, H2.out⟩
theorem r16_calls (p : Nat) (x y : UInt8) (b : List UInt8) (w : World) (h : Rd w p (x :: y :: b)) (hl : b.length ≤ 4000) : Calls Tryz.prog 149 #[.pointer (some ⟨p, 0, none⟩)] w fun e w' => e = .returned (.int .i64 (x.toNat * 256 + y.toNat : Nat)) ∧ Rd w' p b ∧ Upon (· = p) w w' := by
  have H := Aside.mk h
  have HL := Aside.mk hl
  have hx : x.toNat < 256 := x.toNat_lt
  have hy : y.toNat < 256 := y.toNat_lt
  obtain ⟨n, hn⟩ : ∃ n, n = x.toNat * 256 + y.toNat := ⟨_, rfl⟩
  have hn2 : n < 65536 := by omega
  have HN := Aside.mk hn
  rw [← hn]
  clear h hl hn hx hy
  go_enter Tryz.func149, Tryz.ntmps149
  go_wp2_with (go_at_call 203; refine (num16_calls p x y b _ H.out HL.out).mono ?_; rintro e w1 ⟨rfl, h1, h2⟩; rw [← HN.out]; have H1 := Aside.mk h1; have H2 := Aside.mk h2; clear h1 h2)
  go_ret
  exact ⟨rfl, H1.out, H2.out⟩
theorem rest_calls (p : Nat) (l : List UInt8) (w : World) (h : Rd w p l) (hl : l.length ≤ 5000) : Calls Tryz.prog 170 #[.pointer (some ⟨p, 0, none⟩)] w fun e w' => e = .returned (strOf l) ∧ Rd w' p [] ∧ Upon (· = p) w w' := by
  have H := Aside.mk h
  have HL := Aside.mk hl
  clear h hl
  go_enter Tryz.func170, Tryz.ntmps170
  go_wp2_with (first | (go_at_call 151; refine (left_calls p l _ H.out).mono ?_; rintro e w1 ⟨rfl, rfl⟩) | (go_at_call 150; refine (rText_calls p l [] _ (by rw [List.append_nil]; exact H.out) (by rw [List.append_nil]; exact HL.out)).mono ?_; rintro e w1 ⟨rfl, h1, h2⟩; have H1 := Aside.mk h1; have H2 := Aside.mk h2; clear h1 h2))
  go_ret
  exact ⟨rfl, H1.out, H2.out⟩
end Go.Proofs.YtdgjcjhicbgfaaaGreat
end

/- The reader of bytes: a word of parts. Conditions: the parts are those of a packet, the bytes nought. -/
section
namespace Go.Proofs.YtdgjcjhicbgfaaaGreat
open Go.RowKit Go.Lib
set_option linter.unusedVariables false
set_option linter.unusedSimpArgs false
set_option maxRecDepth 20000

def noughts (k : Nat) : List Value := List.replicate k (.int .i64 0)
theorem intinfo : (Tryz.prog.info? 3).map (fun i => (i.zero, i.size, i.bytes)) = some (some (.int .i64 0), 1, 8) := by kernel_rfl
theorem under24 : Tryz.prog.underlying 24 = some (.slice 3) := by kernel_rfl
structure BAt (w wr : World) (p b1 : Nat) (l : List UInt8) (k : Nat) (v : Value) : Prop where
  upon : Upon (· = p) w wr
  rd : Rd wr p l
  parts : Ints3 wr b1 2 1 13
  own : wr.ownsRowF w.heap.size 3 1 v k (noughts k)
theorem ints_below {w w' : World} {b : Nat} {x y z : Int} (h : Ints3 w b x y z) (hb : w'.heap[b]? = w.heap[b]?) : Ints3 w' b x y z :=
  ⟨(World.cell?_of_block hb).trans h.c0, (World.cell?_of_block hb).trans h.c1, (World.cell?_of_block hb).trans h.c2⟩
theorem Ints3.lt {w : World} {b : Nat} {x y z : Int} (h : Ints3 w b x y z) : b < w.heap.size := World.block_lt_of_cell? w _ h.c0
theorem wpList_bits {ops : Array Oper} {rest : List Oper} {o : Oper} {a : Act} {Q : Exit → Act → World → Prop} (hgd : o.guard = none) (s x : Operand)
    (ho : o.op = .call { callee := .builtin .append, args := #[s, x], argTypes := #[24, 24] })
    {w wr : World} {p b1 : Nat} {l : List UInt8} {n : Nat} {v : Value} (h : BAt w wr p b1 l n v) (hb1 : b1 < w.heap.size) (hp : p < w.heap.size) (hl : n ≤ 5) (c : Int) (hc : c = 0) (hs : a.eval s = v) (hx : a.eval x = .slice (some ⟨wr.heap.size, 0, none⟩) 1 1)
    (k : ∀ A m q w1, BAt w w1 p b1 l (n + 1) (.slice A m q) → wpList Tryz.prog ops Q rest (a.put o.dst (.slice A m q)) w1) : wpList Tryz.prog ops Q (o :: rest) a (wr.alloc (.cells #[.int .i64 c] 3)) := by
  subst hc
  obtain ⟨i, hi, hz⟩ := Option.map_eq_some_iff.1 intinfo
  simp only [Prod.mk.injEq] at hz
  obtain ⟨hz0, hz1, hz2⟩ := hz
  have hsz := h.upon.size
  refine wpList_append_ownF _ hgd s x 24 ho w.heap.size 3 i (.int .i64 0) 1 8 under24 hi hz0 hz1 hz2 rfl (by decide) v n (noughts n) hs (h.own.alloc _) ⟨wr.heap.size, 0, none⟩ 1 1 [.int .i64 0] hx rfl ?_ ?_ (by unfold maxLen; omega) (by omega) (by simp; omega) ?_
  · intro j u hj
    match j, hj with
    | 0, hj => simp at hj; subst hj; simp [Addr.add]
    | (j + 1), hj => simp at hj
  · intro u hu; simp at hu; subst hu; rfl
  · intro v' w' ho' hg _
    have hg2 : wr.grownBy w' v.ownBlock := ⟨hg.os, hg.tape, hg.output, by have := hg.size; simp at this; omega, fun i hi hne => (hg.block i (by simp; omega) hne).trans (Below.heap_alloc _ _ _ hi)⟩
    have hne : ∀ k, k < w.heap.size → k ≠ v.ownBlock.getD w.heap.size := by
      intro k hk e
      cases hv : v.ownBlock with
      | none => rw [hv] at e; simp at e; omega
      | some g => rw [hv] at e; simp at e; have := (h.own.lt g hv).1; omega
    have hold : ∀ k, k < w.heap.size → w'.heap[k]? = wr.heap[k]? := fun k hk => hg2.block k (by omega) (fun e => hne k hk (by rw [← e]; rfl))
    have hown : w'.ownsRowF w.heap.size 3 1 v' (n + 1) (noughts (n + 1)) := by
      have e : noughts n ++ [Value.int .i64 0] = noughts (n + 1) := by unfold noughts; rw [List.replicate_succ']
      rw [← e]; exact ho'
    obtain ⟨A, q, rfl⟩ := owns_slice hown
    refine k A _ q w' ⟨?_, (hold p hp).trans h.rd, ints_below h.parts (hold b1 hb1), hown⟩
    exact ⟨hg2.os.trans h.upon.os, hg2.tape.trans h.upon.tape, hg2.output.trans h.upon.output, Nat.le_trans hsz hg2.size, fun k hk hkp => (hold k hk).trans (h.upon.block k hk hkp)⟩
theorem BAt.first {w wr : World} {p b1 : Nat} {l : List UInt8} (hu : Upon (· = p) w wr) (hr : Rd wr p l) (hi : Ints3 wr b1 2 1 13) : BAt w wr p b1 l 0 (.slice none 0 0) :=
  ⟨hu, hr, hi, World.ownsRowF_nil _ _ _ _⟩
theorem and_nought (y : Int) : Go.bits .and .u64 0 y = 0 := by
  simp [Go.bits]
  decide
theorem and_wrap (y : Int) : wrap64 (Go.bits .and .u64 0 y) = 0 := by
  rw [and_nought]; unfold wrap64; omega
set_option maxHeartbeats 2000000 in
theorem rBits_calls (p b1 q1 : Nat) (b : List UInt8) (w : World) (h : Rd w p (0 :: 0 :: b)) (hi : Ints3 w b1 2 1 13) (h1 : b1 ≠ p) (hl : b.length ≤ 4000) :
    Calls Tryz.prog 163 #[.pointer (some ⟨p, 0, none⟩), .slice (some ⟨b1, 0, none⟩) 3 q1] w fun e w' => ∃ g c, e = .returned (.slice (some ⟨g, 0, none⟩) 3 c) ∧ Ints3 w' g 0 0 0 ∧ w.heap.size ≤ g ∧ Rd w' p b ∧ Upon (· = p) w w' := by
  have H := Aside.mk h
  have HI := Aside.mk hi
  have HL := Aside.mk hl
  have HN := Aside.mk h1
  have HP : Aside (p < w.heap.size) := ⟨h.lt⟩
  have HB1 : Aside (b1 < w.heap.size) := ⟨hi.lt⟩
  clear h hi h1 hl
  go_enter Tryz.func163, Tryz.ntmps163
  go_wp2_with (first | (go_at_call 169; refine (err_calls _ _ _ H.out).mono ?_; rintro e w' ⟨rfl, rfl⟩) | (go_at_call 144; refine (sum_calls _ _ _ HI.out).mono ?_; rintro e w' ⟨rfl, rfl⟩) | (go_at_call 203; refine (num16_calls p 0 0 b _ H.out HL.out).mono ?_; rintro e w1 ⟨rfl, h1, h2⟩; have H1 := Aside.mk h1; have H2 := Aside.mk h2; have c1 : w1.cell? ⟨p, 1, none⟩ = some (.int .i64 0) := h1.cell 1; clear h1 h2))
  have HK0 := Aside.mk (BAt.first H2.out H1.out (ints_below HI.out (H2.out.block b1 HB1.out HN.out)))
  go_loopw [5, 7, 31] (fun r v i wr => r = .int .i64 16 ∧ i = .int .i64 0 ∧ (∃ A m q, v = .slice A m q) ∧ Aside (BAt w wr p b1 b 0 v) ∨ r = .int .i64 14 ∧ i = .int .i64 1 ∧ (∃ A m q, v = .slice A m q) ∧ Aside (BAt w wr p b1 b 1 v) ∨ r = .int .i64 13 ∧ i = .int .i64 2 ∧ (∃ A m q, v = .slice A m q) ∧ Aside (BAt w wr p b1 b 2 v) ∨ r = .int .i64 0 ∧ i = .int .i64 3 ∧ (∃ A m q, v = .slice A m q) ∧ Aside (BAt w wr p b1 b 3 v)) (fun _ _ i _ => 3 - (intOf i).toNat)
  case atStart => exact .inl ⟨rfl, rfl, ⟨_, _, _, rfl⟩, HK0⟩
  case round =>
    rcases hrel with ⟨rfl, rfl, ⟨A, m, q, rfl⟩, HK⟩ | ⟨rfl, rfl, ⟨A, m, q, rfl⟩, HK⟩ | ⟨rfl, rfl, ⟨A, m, q, rfl⟩, HK⟩ | ⟨rfl, rfl, ⟨A, m, q, rfl⟩, HK⟩
    all_goals
      obtain ⟨p0, p1, p2⟩ := HK.out.parts
    · go_wp2_with (at_builtin; refine wpList_bits (v := .slice A m q) rfl (.tmp 38) (.tmp 49) rfl HK.out HB1.out HP.out (by decide) _ (and_wrap _) rfl rfl ?_; intro A' m' q' w2 h3; have H3 := Aside.mk h3; clear h3)
      go_round
      case rel => exact .inr (.inl ⟨rfl, rfl, ⟨_, _, _, rfl⟩, H3⟩)
      case measure => simp [intOf]
    · go_wp2_with (at_builtin; refine wpList_bits (v := .slice A m q) rfl (.tmp 38) (.tmp 49) rfl HK.out HB1.out HP.out (by decide) _ (and_wrap _) rfl rfl ?_; intro A' m' q' w2 h3; have H3 := Aside.mk h3; clear h3)
      go_round
      case rel => exact .inr (.inr (.inl ⟨rfl, rfl, ⟨_, _, _, rfl⟩, H3⟩))
      case measure => simp [intOf]
    · go_wp2_with (at_builtin; refine wpList_bits (v := .slice A m q) rfl (.tmp 38) (.tmp 49) rfl HK.out HB1.out HP.out (by decide) _ (and_wrap _) rfl rfl ?_; intro A' m' q' w2 h3; have H3 := Aside.mk h3; clear h3)
      go_round
      case rel => exact .inr (.inr (.inr ⟨rfl, rfl, ⟨_, _, _, rfl⟩, H3⟩))
      case measure => simp [intOf]
    · go_wp2
      go_ret
      rcases HK.out.own.2 with ⟨_, h0⟩ | ⟨g, cap, cur, fz, hv, hge, hg, hfz, hnc, hcm, hcs, htk⟩
      · cases h0
      · cases hv
        have hc : ∀ j u, (noughts 3)[j]? = some u → wr.cell? ⟨g, j, none⟩ = some u := by
          intro j u hj
          have := HK.out.own.cells (g := g) rfl j u hj
          have e : (⟨g, 0, none⟩ : Addr).add j = ⟨g, j, none⟩ := by unfold Addr.add; split <;> simp_all
          rw [e] at this; exact this
        exact ⟨g, _, rfl, ⟨hc 0 _ rfl, hc 1 _ rfl, hc 2 _ rfl⟩, hge, HK.out.rd, HK.out.upon⟩
end Go.Proofs.YtdgjcjhicbgfaaaGreat
end

/- The sum of sixteen bits: what it answers. Conditions: the text is short. -/
section
namespace Go.Proofs.YtdgjcjhicbgfaaaGreat
open Go.RowKit Go.Lib
set_option linter.unusedVariables false
set_option linter.unusedSimpArgs false
set_option maxRecDepth 20000

def wsAt (l : List UInt8) : Nat → Nat
  | 0 => 0
  | k + 1 => wsAt l k + (l.getD k 0).toNat * (if k % 2 = 0 then 256 else 1)
theorem wsAt_step (a b : UInt8) (r : List UInt8) : ∀ k, wsAt (a :: b :: r) (k + 2) = a.toNat * 256 + b.toNat + wsAt r k
  | 0 => by simp [wsAt]
  | k + 1 => by
    have ih := wsAt_step a b r k
    rw [show k + 1 + 2 = (k + 2) + 1 by omega]
    unfold wsAt
    rw [ih, show (k + 2) % 2 = k % 2 by omega]
    simp [List.getD]
    omega
theorem wsAt_all : ∀ l : List UInt8, wsAt l l.length = wsum l
  | [] => by simp [wsAt, wsum]
  | [a] => by simp [wsAt, wsum]
  | a :: b :: r => by
    have ih := wsAt_all r
    rw [List.length_cons, List.length_cons, wsAt_step, ih]
    rw [wsum]
theorem wsAt_le (l : List UInt8) : ∀ k, wsAt l k ≤ k * 65536
  | 0 => by simp [wsAt]
  | k + 1 => by
    have ih := wsAt_le l k
    unfold wsAt
    have : (l.getD k 0).toNat < 256 := (l.getD k 0).toNat_lt
    split <;> omega
theorem fold_small {n : Nat} (h : n < 65536) : fold16 n = n := by
  unfold fold16
  split <;> omega
theorem fold_step {n : Nat} (h : 65536 ≤ n) : fold16 (n / 65536 + n % 65536) = fold16 n := by
  unfold fold16
  rw [if_neg (by omega), if_neg (by omega)]
  omega
theorem byte_lt (l : List UInt8) (k : Nat) : (l.getD k 0).toNat < 256 := (l.getD k 0).toNat_lt
theorem byte_at {l : List UInt8} {s : ByteArray} (hl : l = s.data.toList) {k : Nat} (h : k < s.size) : s[k].toNat = (l.getD k 0).toNat := by
  subst hl
  rw [List.getD_eq_getElem?_getD, Array.getElem?_toList, Array.getElem?_eq_getElem (by exact h)]
  rfl
theorem u64_small {x : Int} (h : 0 ≤ x ∧ x < 18446744073709551616) : IntKind.u64.wrap x = x := by rw [IntKind.wrap_u64]; omega
theorem wsAt_even {l : List UInt8} {k : Nat} (h : k % 2 = 0) (hk : k ≤ 5000) : IntKind.u64.wrap ((wsAt l k : Nat) + IntKind.u64.wrap (IntKind.u64.wrap (l.getD k 0).toNat * 256)) = (wsAt l (k + 1) : Nat) := by
  have := wsAt_le l k
  have := byte_lt l k
  conv => rhs; unfold wsAt
  rw [if_pos h]
  simp only [IntKind.wrap_u64]
  omega
theorem wsAt_odd {l : List UInt8} {k : Nat} (h : k % 2 = 1) (hk : k ≤ 5000) : IntKind.u64.wrap ((wsAt l k : Nat) + IntKind.u64.wrap (IntKind.u64.wrap (l.getD k 0).toNat)) = (wsAt l (k + 1) : Nat) := by
  have := wsAt_le l k
  have := byte_lt l k
  conv => rhs; unfold wsAt
  rw [if_neg (by omega)]
  simp only [IntKind.wrap_u64]
  omega
theorem and_low (x : Nat) (hx : x < 1099511627776) : Go.bits .and .u64 (x : Int) 65535 = (x : Int) % 65536 := by
  have := bits_mask .u64 64 (by decide) wraps_u64 16 (by decide) (x : Int) (by omega) (by omega)
  simpa using this
theorem not_word (x : Nat) (hx : x < 65536) : wrap64 (Go.bits .xor .u16 IntKind.u16.max (x : Int)) = (65535 - x : Nat) := by
  have h1 : (BitVec.ofInt 16 65535) ^^^ (BitVec.ofNat 16 x) = ~~~ (BitVec.ofNat 16 x) := by
    rw [BitVec.not_def]
    rfl
  have h2 : (~~~ (BitVec.ofNat 16 x)).toNat = 65535 - x := by
    rw [BitVec.toNat_not, BitVec.toNat_ofNat, Nat.mod_eq_of_lt (by omega)]
  have h3 : Go.bits .xor .u16 IntKind.u16.max (x : Int) = (65535 - x : Nat) := by
    show IntKind.u16.wrap (((BitVec.ofInt 16 65535) ^^^ (BitVec.ofInt 16 (x : Int))).toNat : Int) = _
    rw [BitVec.ofInt_natCast, h1, h2]
    rw [IntKind.wrap_u16]
    omega
  rw [h3]
  unfold wrap64
  omega
theorem ones_of {l : List UInt8} {x : Nat} (h1 : fold16 x = x) (h2 : fold16 x = fold16 (wsum l)) : 65535 - x = onesB l := by
  unfold onesB
  rw [← h2, h1]
set_option maxHeartbeats 2000000 in
theorem ones_calls (s : ByteArray) (w : World) (hl : s.size ≤ 5000) : Calls Tryz.prog 109 #[.string s] w fun e w' => e = .returned (.int .i64 (onesB s.data.toList)) ∧ w = w' := by
  obtain ⟨l, hl'⟩ : ∃ l, l = s.data.toList := ⟨_, rfl⟩
  obtain ⟨n, hn⟩ : ∃ n, n = s.size := ⟨_, rfl⟩
  have hn5 : n ≤ 5000 := by omega
  have HL := Aside.mk hl'
  have HN := Aside.mk hn
  clear hl hl'
  go_enter Tryz.func109, Tryz.ntmps109
  go_wp2
  rw [← hn]
  clear hn
  go_loop [3, 7] (fun a i => ∃ k : Nat, k ≤ n ∧ i = .int .i64 k ∧ a = .int .u64 (wsAt l k)) (fun _ i => n - (intOf i).toNat)
  case atStart => exact ⟨0, by omega, rfl, rfl⟩
  case round =>
    obtain ⟨k, hk, rfl, rfl⟩ := hrel
    have HW := wsAt_le l k
    by_cases hlt : k < n
    · rcases Nat.mod_two_eq_zero_or_one k with he | he
      · have hi : (k : Int) < s.size := by have := HN.out; omega
        have HE := Aside.mk he
        go_wp2
        go_round
        case rel => exact ⟨k + 1, by omega, by go_num, by rw [byte_at HL.out (by have := HN.out; omega), wsAt_even HE.out (by omega)]⟩
        case measure => simp [intOf]; omega
      · have hi : (k : Int) < s.size := by have := HN.out; omega
        have HE := Aside.mk he
        go_wp2
        go_round
        case rel => exact ⟨k + 1, by omega, by go_num, by rw [byte_at HL.out (by have := HN.out; omega), wsAt_odd HE.out (by omega)]⟩
        case measure => simp [intOf]; omega
    · have : k = n := by omega
      subst this
      have HW2 : Aside (wsAt l k = wsum l) := ⟨(congrArg (wsAt l) (show k = l.length by rw [HL.out, HN.out, Array.length_toList]; rfl)).trans (wsAt_all l)⟩
      go_wp2
      go_loop [3] (fun a => ∃ x : Nat, a = .int .u64 x ∧ x < 1099511627776 ∧ Aside (fold16 x = fold16 (wsum l))) (fun a => (intOf a).toNat)
      case atStart => exact ⟨_, rfl, by omega, ⟨by rw [HW2.out]⟩⟩
      case round =>
        obtain ⟨x, rfl, hx, HX⟩ := hrel
        by_cases h6 : x < 65536
        · have hd : (x : Int) / 65536 = 0 := by omega
          have HF := Aside.mk (fold_small h6)
          go_wp2
          all_goals
            go_ret
            refine ⟨?_, rfl⟩
            show Ending.returned (.int .i64 (wrap64 _)) = _
            rw [not_word x h6, ones_of HF.out HX.out, HL.out]
        · have hd : ¬ ((x : Int) / 65536 = 0) := by omega
          have HG := Aside.mk (fold_step (n := x) (by omega))
          go_wp2
          have hw : IntKind.u64.wrap ((x : Int) / 65536 + Go.bits .and .u64 (x : Int) 65535) = (x / 65536 + x % 65536 : Nat) := by
            rw [and_low x hx, u64_small (by omega)]
            omega
          rw [hw]
          go_round
          case rel => exact ⟨_, rfl, by omega, ⟨by rw [HG.out, HX.out]⟩⟩
          case measure => simp [intOf]; omega
end Go.Proofs.YtdgjcjhicbgfaaaGreat
end

/- The check sum's table, and what it answers. Conditions: the text is short. -/
section
namespace Go.Proofs.YtdgjcjhicbgfaaaGreat
open Go.RowKit Go.Lib
set_option linter.unusedVariables false
set_option linter.unusedSimpArgs false
set_option maxRecDepth 20000

theorem u32_wrap_nat (c : BitVec 32) : IntKind.u32.wrap (c.toNat : Int) = c.toNat := by
  have : c.toNat < 4294967296 := c.isLt
  rw [IntKind.wrap_u32]; omega
theorem xor32 (c d : BitVec 32) : Go.bits .xor .u32 (c.toNat : Int) (d.toNat : Int) = ((c ^^^ d).toNat : Int) := by
  show IntKind.u32.wrap (((BitVec.ofInt 32 (c.toNat : Int)) ^^^ (BitVec.ofInt 32 (d.toNat : Int))).toNat : Int) = _
  rw [BitVec.ofInt_natCast, BitVec.ofInt_natCast, BitVec.ofNat_toNat, BitVec.ofNat_toNat, BitVec.setWidth_eq, BitVec.setWidth_eq]
  exact u32_wrap_nat _
theorem and32 (c d : BitVec 32) : Go.bits .and .u32 (c.toNat : Int) (d.toNat : Int) = ((c &&& d).toNat : Int) := by
  show IntKind.u32.wrap (((BitVec.ofInt 32 (c.toNat : Int)) &&& (BitVec.ofInt 32 (d.toNat : Int))).toNat : Int) = _
  rw [BitVec.ofInt_natCast, BitVec.ofInt_natCast, BitVec.ofNat_toNat, BitVec.ofNat_toNat, BitVec.setWidth_eq, BitVec.setWidth_eq]
  exact u32_wrap_nat _
theorem bit0 (c : BitVec 32) : Go.bits .and .u32 (c.toNat : Int) 1 = (c.toNat % 2 : Nat) := by
  have := and32 c 1#32
  rw [show ((1#32 : BitVec 32).toNat : Int) = 1 from rfl] at this
  rw [this, BitVec.toNat_and]
  show ((c.toNat &&& 1 : Nat) : Int) = _
  rw [Nat.and_one_is_mod]
theorem lsb (c : BitVec 32) : c.getLsbD 0 = decide (c.toNat % 2 = 1) := by
  simp [BitVec.getLsbD, Nat.testBit_zero]
theorem shr1 (c : BitVec 32) : (c.toNat : Int) / (2 : Int) = ((c >>> 1).toNat : Int) := by
  rw [BitVec.toNat_ushiftRight, Nat.shiftRight_succ]
  simp
theorem rnd_eq (c : BitVec 32) : Go.bits .xor .u32 ((c.toNat : Int) / 2) (Go.bits .and .u32 3988292384 (IntKind.u32.wrap (-(Go.bits .and .u32 (c.toNat : Int) 1)))) = ((Crc.rnd c).toNat : Int) := by
  rw [bit0, shr1]
  unfold Crc.rnd
  rw [lsb]
  by_cases h : c.toNat % 2 = 1
  · have e : Go.bits .and .u32 3988292384 (IntKind.u32.wrap (-(((c.toNat % 2 : Nat)) : Int))) = (Crc.poly.toNat : Int) := by
      rw [h]
      decide
    rw [e, xor32, if_pos (by simpa using h)]
  · have e : Go.bits .and .u32 3988292384 (IntKind.u32.wrap (-(((c.toNat % 2 : Nat)) : Int))) = ((0#32 : BitVec 32).toNat : Int) := by
      rw [show c.toNat % 2 = 0 by omega]
      decide
    rw [e, xor32, if_neg (by simpa using h)]
def rndN : Nat → BitVec 32 → BitVec 32
  | 0, c => c
  | k + 1, c => Crc.rnd (rndN k c)
theorem rndN8 (c : BitVec 32) : rndN 8 c = Crc.rnd8 c := rfl
/-- The table's cells. -/
def tabCells : List Value := (List.range 256).map fun i => .int .u32 (Crc.tab (BitVec.ofNat 8 i)).toNat
/-- A block that holds the first cells of the table. -/
structure TabAt (w wr : World) (g k : Nat) : Prop where
  mk :: (out : ∃ cs : Array Value, Blk wr g 414 cs ∧ cs.size = 256 ∧ (∀ i, i < k → cs[i]? = some (.int .u32 (Crc.tab (BitVec.ofNat 8 i)).toNat)) ∧ (∀ i, i < 256 → ∃ n : Int, cs[i]? = some (.int .u32 n)) ∧ w.heap.size ≤ g ∧ Below w.heap.size w wr)
theorem TabAt.cell {w wr : World} {g k : Nat} (h : TabAt w wr g k) (i : Nat) (hi : i < 256) : ∃ n : Int, wr.cell? ⟨g, i, none⟩ = some (.int .u32 n) := by
  obtain ⟨cs, hb, hs, h1, h2, h3, h4⟩ := h.out
  obtain ⟨n, hn⟩ := h2 i hi
  exact ⟨n, (hb.cell i).trans hn⟩
theorem TabAt.put {w wr : World} {g k : Nat} (h : TabAt w wr g k) (hk : k < 256) : TabAt w (wr.setCell ⟨g, k, none⟩ (.int .u32 ((rndN 8 (BitVec.ofNat 32 k)).toNat : Nat))) g (k + 1) := by
  obtain ⟨cs, hb, hs, h1, h2, h3, h4⟩ := h.out
  refine ⟨_, hb.set k _, by simpa using hs, ?_, ?_, h3, ?_⟩
  · intro i hi
    rw [Array.getElem?_setIfInBounds]
    by_cases e : k = i
    · subst e
      rw [if_pos rfl, if_pos (by omega), rndN8]
      unfold Crc.tab
      have : (BitVec.ofNat 8 k).setWidth 32 = BitVec.ofNat 32 k := by
        apply BitVec.eq_of_toNat_eq
        simp
        omega
      rw [this]
    · rw [if_neg e]
      exact h1 i (by omega)
  · intro i hi
    rw [Array.getElem?_setIfInBounds]
    by_cases e : k = i
    · subst e
      exact ⟨_, by rw [if_pos rfl, if_pos (by omega)]⟩
    · rw [if_neg e]
      exact h2 i hi
  · exact (Upon.of_below (S := (· = g)) h4).setg rfl _ _ |>.below (Nat.le_refl _) (fun i hi => by omega)
theorem tab_first (w : World) : TabAt w (w.alloc (.cells Tryz.zeroCells414 414)) w.heap.size 0 := by
  refine ⟨_, Blk.new _ _ _, ?_, fun i hi => by omega, ?_, Nat.le_refl _, (Below.refl _ _).alloc (Nat.le_refl _) _⟩
  · have : (Tryz.zeroCells414).size = 256 := by kernel_rfl
    exact this
  · intro i hi
    have h : Tryz.zeroCells414.toList = List.replicate 256 (.int .u32 0) := by kernel_rfl
    refine ⟨0, ?_⟩
    rw [← Array.getElem?_toList, h, List.getElem?_replicate, if_pos hi]
set_option maxHeartbeats 2000000 in
theorem make_calls (w : World) : Calls Tryz.prog 230 #[] w fun e w' => ∃ g, e = .returned (.pointer (some ⟨g, 0, none⟩)) ∧ TabAt w w' g 256 := by
  go_enter Tryz.func230, Tryz.ntmps230
  go_wp2
  go_loopw [6] (fun i wr => ∃ k : Nat, k ≤ 256 ∧ i = .int .i64 k ∧ Aside (TabAt w wr w.heap.size k)) (fun i _ => 256 - (intOf i).toNat)
  case atStart => exact ⟨0, by omega, rfl, ⟨tab_first w⟩⟩
  case round =>
    obtain ⟨k, hk, rfl, HT⟩ := hrel
    by_cases hlt : k < 256
    · have HI : Aside (TabAt w wr w.heap.size k ∧ k < 256) := ⟨HT.out, hlt⟩
      obtain ⟨n, c9⟩ := HI.out.1.cell k hlt
      obtain ⟨cs, hb, _⟩ := HT.out.out
      have f9 := hb.frozen k
      have HX : Aside ((k : Int) = ((rndN 0 (BitVec.ofNat 32 k)).toNat : Int)) := ⟨by show _ = ((BitVec.ofNat 32 k).toNat : Int); rw [BitVec.toNat_ofNat]; omega⟩
      clear hb
      go_wp2
      go_loop [3, 11] (fun v j => ∃ m : Nat, m ≤ 8 ∧ j = .int .i64 m ∧ v = .int .u32 ((rndN m (BitVec.ofNat 32 k)).toNat : Nat)) (fun _ j => 8 - (intOf j).toNat)
      case atStart => exact ⟨0, by omega, rfl, by rw [← HX.out]⟩
      case round =>
        obtain ⟨m, hm, rfl, rfl⟩ := hrel
        by_cases hm8 : m < 8
        · have HR0 := rnd_eq (rndN m (BitVec.ofNat 32 k))
          rw [IntKind.wrap_u32] at HR0
          have HR := Aside.mk HR0
          clear HR0
          have hlt2 : (rndN m (BitVec.ofNat 32 k)).toNat < 4294967296 := (rndN m (BitVec.ofNat 32 k)).isLt
          go_wp2
          rw [HR.out]
          go_round
          case rel => exact ⟨m + 1, by omega, by go_num, rfl⟩
          case measure => simp [intOf]; omega
        · have : m = 8 := by omega
          subst this
          go_wp2
          go_round
          case rel => exact ⟨k + 1, by omega, by go_num, ⟨HI.out.1.put HI.out.2⟩⟩
          case measure => simp [intOf]; omega
    · have : k = 256 := by omega
      subst this
      go_wp2
      go_ret
      exact ⟨_, rfl, HT.out⟩
end Go.Proofs.YtdgjcjhicbgfaaaGreat
end

/- The check sum of a text; a text sealed and opened. Conditions: the text is short. -/
section
namespace Go.Proofs.YtdgjcjhicbgfaaaGreat
open Go.RowKit Go.Lib
set_option linter.unusedVariables false
set_option linter.unusedSimpArgs false
set_option maxRecDepth 20000

def Tab (w : World) (g : Nat) : Prop := g < w.heap.size ∧ ∀ i, i < 256 → w.cell? ⟨g, i, none⟩ = some (.int .u32 (Crc.tab (BitVec.ofNat 8 i)).toNat)
theorem Tab.of {w wr : World} {g : Nat} (h : TabAt w wr g 256) : Tab wr g := by
  obtain ⟨cs, hb, hs, h1, h2, h3, h4⟩ := h.out
  exact ⟨hb.lt, fun i hi => (hb.cell i).trans (h1 i hi)⟩
theorem Tab.keep {w w' : World} {g : Nat} (h : Tab w g) (hb : Below w.heap.size w w') : Tab w' g :=
  ⟨Nat.lt_of_lt_of_le h.1 hb.size, fun i hi => below_cell hb (h.2 i hi)⟩
theorem xor8 (c d : BitVec 8) : Go.bits .xor .u8 (c.toNat : Int) (d.toNat : Int) = ((c ^^^ d).toNat : Int) := by
  show IntKind.u8.wrap (((BitVec.ofInt 8 (c.toNat : Int)) ^^^ (BitVec.ofInt 8 (d.toNat : Int))).toNat : Int) = _
  rw [BitVec.ofInt_natCast, BitVec.ofInt_natCast, BitVec.ofNat_toNat, BitVec.ofNat_toNat, BitVec.setWidth_eq, BitVec.setWidth_eq]
  have : (c ^^^ d).toNat < 256 := (c ^^^ d).isLt
  rw [IntKind.wrap_u8]
  omega
theorem idx_eq (c : BitVec 32) (b : UInt8) : Go.bits .xor .u8 ((c.toNat : Int) % 256) (b.toNat : Int) = ((c.setWidth 8 ^^^ b.toBitVec).toNat : Int) := by
  have h : ((c.toNat : Int) % 256) = ((c.setWidth 8).toNat : Int) := by
    rw [BitVec.toNat_setWidth]; omega
  rw [h]
  exact xor8 _ _
theorem shr8 (c : BitVec 32) : (c.toNat : Int) / (256 : Int) = ((c >>> 8).toNat : Int) := by
  rw [BitVec.toNat_ushiftRight, Nat.shiftRight_eq_div_pow]
  omega
theorem go_step (c : BitVec 32) (b : UInt8) : Go.bits .xor .u32 ((c.toNat : Int) / 256) ((Crc.tab (c.setWidth 8 ^^^ b.toBitVec)).toNat : Int) = ((Crc.step c b.toBitVec).toNat : Int) := by
  rw [shr8, xor32]
  rfl
def runL (c : BitVec 32) (l : List UInt8) : BitVec 32 := Crc.run c (l.map UInt8.toBitVec)
theorem runL_step (c : BitVec 32) (l : List UInt8) (k : Nat) (h : k < l.length) : runL c (l.take (k + 1)) = Crc.step (runL c (l.take k)) l[k].toBitVec := by
  unfold runL Crc.run
  rw [List.take_succ_eq_append_getElem h, List.map_append, List.foldl_append]
  rfl
set_option maxHeartbeats 2000000 in
theorem go_calls (g : Nat) (c : BitVec 32) (l : List UInt8) (w : World) (h : Tab w g) (hl : l.length ≤ 5000) : Calls Tryz.prog 231 #[.pointer (some ⟨g, 0, none⟩), .int .u32 c.toNat, strOf l] w fun e w' => e = .returned (.int .u32 (runL c l).toNat) ∧ Below w.heap.size w w' := by
  have H := Aside.mk h
  obtain ⟨n, hn⟩ : ∃ n, n = l.length := ⟨_, rfl⟩
  obtain ⟨cp, w2, hr, hb, hc⟩ := conv_bytes l w
  rw [← hn] at hr hl
  have HB := Aside.mk hb
  have HC := Aside.mk hc
  have HN := Aside.mk hn
  clear h hb hc hn
  go_enter Tryz.func231, Tryz.ntmps231
  go_wp2
  clear hr
  go_loop [1, 15] (fun v i => ∃ k : Nat, k ≤ n ∧ i = .int .i64 k ∧ v = .int .u32 ((runL c (l.take k)).toNat : Nat)) (fun _ i => n - (intOf i).toNat)
  case atStart => exact ⟨0, by omega, rfl, rfl⟩
  case round =>
    obtain ⟨k, hk, rfl, rfl⟩ := hrel
    by_cases hlt : k < n
    · obtain ⟨d, hd⟩ : ∃ d, d = runL c (l.take k) := ⟨_, rfl⟩
      obtain ⟨b, hb⟩ : ∃ b, b = l[k]'(by have := HN.out; omega) := ⟨_, rfl⟩
      have ck := HC.out k (by have := HN.out; omega)
      rw [← hb] at ck
      have HD := Aside.mk hd
      have HBB := Aside.mk hb
      obtain ⟨j, hj⟩ : ∃ j, j = (d.setWidth 8 ^^^ b.toBitVec).toNat := ⟨_, rfl⟩
      have hj2 : j < 256 := by rw [hj]; exact (d.setWidth 8 ^^^ b.toBitVec).isLt
      have hx : Go.bits .xor .u8 ((d.toNat : Int) % 256) (b.toNat : Int) = (j : Int) := by rw [idx_eq, hj]
      have cj := ((H.out.keep HB.out).2 j hj2)
      have hd32 : d.toNat < 4294967296 := d.isLt
      have HJ := Aside.mk hj
      rw [← hd]
      clear hd hb hj
      go_wp2
      go_round
      case rel => exact ⟨k + 1, by omega, by go_num, by rw [HJ.out, BitVec.ofNat_toNat, BitVec.setWidth_eq, go_step, HD.out, HBB.out, ← runL_step]⟩
      case measure => simp [intOf]; omega
    · have : k = n := by omega
      subst this
      go_wp2
      go_ret
      refine ⟨?_, HB.out⟩
      show Ending.returned (.int .u32 ((runL c (l.take k)).toNat : Nat)) = _
      rw [HN.out, List.take_length]
theorem not32 (c : BitVec 32) : Go.bits .xor .u32 IntKind.u32.max (c.toNat : Int) = ((~~~ c).toNat : Int) := by
  have h : IntKind.u32.max = (((BitVec.allOnes 32).toNat : Nat) : Int) := by decide
  rw [h, xor32, BitVec.not_def, BitVec.xor_comm]
set_option maxHeartbeats 2000000 in
theorem csum_calls (b q : Nat) (l : List UInt8) (w : World) (h : w.cell? ⟨b, 0, none⟩ = some (strOf l)) (hl : l.length ≤ 5000) : Calls Tryz.prog 200 #[.slice (some ⟨b, 0, none⟩) 1 q] w fun e w' => e = .returned (.int .u32 (crcB l).toNat) ∧ Below w.heap.size w w' := by
  have H := Aside.mk h
  have HL := Aside.mk hl
  clear h hl
  go_enter Tryz.func200, Tryz.ntmps200
  go_wp2_with (go_at_call 230; refine (make_calls _).mono ?_; rintro e w1 ⟨g, rfl, h1⟩; have HT := Aside.mk (Tab.of h1); obtain ⟨_, _, _, _, _, hge, hb1⟩ := h1.out; have HB := Aside.mk hb1; have HG := Aside.mk hge; clear h1 hge hb1)
  have c0 := below_cell HB.out H.out
  go_loopw [4, 10] (fun c i wr => c = .int .u32 4294967295 ∧ i = .int .i64 0 ∧ wr = w1 ∨ c = .int .u32 ((runL (BitVec.allOnes 32) l).toNat : Nat) ∧ i = .int .i64 1 ∧ Aside (Below w.heap.size w wr)) (fun _ i _ => 1 - (intOf i).toNat)
  case atStart => exact .inl ⟨rfl, rfl, rfl⟩
  case round =>
    rcases hrel with ⟨rfl, rfl, rfl⟩ | ⟨rfl, rfl, HR⟩
    · go_wp2_with (go_at_call 231; refine (go_calls g (BitVec.allOnes 32) l _ HT.out HL.out).mono ?_; rintro e w2 ⟨rfl, h2⟩; have H2 := Aside.mk h2; clear h2)
      go_round
      case rel => exact .inr ⟨rfl, rfl, ⟨below_then HB.out HB.out.size H2.out⟩⟩
      case measure => simp [intOf]
    · go_wp2
      all_goals
        go_ret
        refine ⟨?_, HR.out⟩
        show Ending.returned (.int .u32 (Go.bits .xor .u32 IntKind.u32.max ((runL (4294967295#32) l).toNat : Nat))) = _
        rw [not32]
        rfl
end Go.Proofs.YtdgjcjhicbgfaaaGreat
end

/- A text sealed with its check sum, and opened. Conditions: the text is short. -/
section
namespace Go.Proofs.YtdgjcjhicbgfaaaGreat
open Go.RowKit Go.Lib
set_option linter.unusedVariables false
set_option linter.unusedSimpArgs false
set_option maxRecDepth 20000

/-- A slice of bytes in a block from B on, of which no cell is frozen. -/
structure Bf (w : World) (B : Nat) (bs : List UInt8) (v : Value) : Prop where
  mk :: (out : ∃ (g cap : Nat) (cs : Array Value) (fr : Nat × Nat), v = .slice (some ⟨g, 0, none⟩) bs.length cap ∧ B ≤ g ∧ w.heap[g]? = some (.cells cs 5 fr) ∧ cap ≤ cs.size ∧ bs.length ≤ cap ∧ (∀ (j : Nat) (b : UInt8), bs[j]? = some b → cs[j]? = some (Value.int .u8 b.toNat)) ∧ ∀ i, i < cs.size → ¬ (fr.1 ≤ i ∧ i < fr.2))
theorem Bf.cell {w : World} {B : Nat} {bs : List UInt8} {v : Value} (h : Bf w B bs v) : ∃ (g cap : Nat), v = .slice (some ⟨g, 0, none⟩) bs.length cap ∧ B ≤ g ∧ ∀ (j : Nat) (b : UInt8), bs[j]? = some b → w.cell? ⟨g, j, none⟩ = some (Value.int .u8 b.toNat) := by
  obtain ⟨g, cap, cs, fr, rfl, h1, h2, h3, h4, h5, h6⟩ := h.out
  exact ⟨g, cap, rfl, h1, fun j b hj => by rw [cell_of_row w g j cs 5 fr h2]; exact h5 j b hj⟩
theorem conv_bf (l : List UInt8) (w : World) : ∃ v w', (convert 9 45 (strOf l)).run Tryz.prog w = .ok v w' ∧ Below w.heap.size w w' ∧ Bf w' w.heap.size l v := by
  have hr := run_bytes_of_string (P := Tryz.prog) w 9 45 5 ⟨l.toArray⟩ (by kernel_rfl) under45 (by kernel_rfl)
  have hge := grownCap_ge w (⟨l.toArray⟩ : ByteArray).size 0 5
  have hsz : (⟨l.toArray⟩ : ByteArray).size = l.length := by simp [ByteArray.size]
  obtain ⟨q, hq⟩ : ∃ q, q = grownCap w (⟨l.toArray⟩ : ByteArray).size 0 5 := ⟨_, rfl⟩
  obtain ⟨cs, hcs⟩ : ∃ cs, cs = bytesRow ⟨l.toArray⟩ q := ⟨_, rfl⟩
  rw [← hq, ← hcs, hsz] at hr
  rw [← hq, hsz] at hge
  refine ⟨_, _, hr, ?_, ?_⟩
  · exact ⟨rfl, rfl, rfl, by simp, fun k hk => by
      show (w.heap.push _)[k]? = w.heap[k]?
      rw [Array.getElem?_push_lt hk, Array.getElem?_eq_getElem hk]⟩
  · refine ⟨w.heap.size, q, cs, (cs.size, cs.size + 1), rfl, Nat.le_refl _, ?_, ?_, hge, ?_, ?_⟩
    · exact heap_alloc_new w.drew _
    · rw [hcs]
      unfold bytesRow
      simp
      rw [hsz]
      omega
    · intro j b hj
      have hlt := (List.getElem?_eq_some_iff.1 hj).1
      rw [hcs, bytesRow_at _ _ _ (by simpa using hlt)]
      simp [List.getElem?_eq_getElem hlt] at hj
      simp [hj]
    · intro i hi hh
      simp only at hh
      omega
theorem conv_back {w : World} {B : Nat} {bs : List UInt8} {v : Value} (h : Bf w B bs v) : (convert 45 9 v).run Tryz.prog w = .ok (strOf bs) w := by
  obtain ⟨g, cap, rfl, h1, h2⟩ := h.cell
  refine run_convert_bytes_back w 45 9 5 ⟨g, 0, none⟩ cap bs under45 (by kernel_rfl) (by kernel_rfl) ?_
  intro j hj
  have e : (⟨g, 0, none⟩ : Addr).add j = ⟨g, j, none⟩ := by unfold Addr.add; split <;> simp_all
  rw [e]
  exact h2 j _ (List.getElem?_eq_getElem hj)
theorem run_bf {w : World} {B : Nat} {bs : List UInt8} {v : Value} (h : Bf w B bs v) (hB : B ≤ w.heap.size) {ad : Addr} {y : UInt8} (hc : w.cell? ad = some (.int .u8 y.toNat)) (hl : bs.length ≤ 5000) :
    ∃ A m q w', (Builtin.append_ #[45, 45] 45 #[v, .slice (some ad) 1 1]).run Tryz.prog w = .ok (.slice A m q) w' ∧ Bf w' B (bs ++ [y]) (.slice A m q) ∧ Below B w w' := by
  obtain ⟨i, hi, hz⟩ := Option.map_eq_some_iff.1 u8info
  simp only [Prod.mk.injEq] at hz
  obtain ⟨hz0, hz1, hz2⟩ := hz
  obtain ⟨g, cap, cs, fr, rfl, h1, h2, h3, h4, h5, h6⟩ := h.out
  have hnew : ∀ w', w'.heap = w.heap → (Builtin.firstCells i.size 1 (.slice (some ad) 1 1)).run Tryz.prog w' = .ok [.int .u8 (y.toNat : Int)].toArray w' := by
    intro w' hw
    have hh : w'.cell? ad = w.cell? ad := World.cell?_of_block (by rw [hw])
    refine run_firstCells_some (P := Tryz.prog) w' i.size 1 ad 1 1 [.int .u8 (y.toNat : Int)] (by rw [hz1]; rfl) ?_
    intro j u hj
    match j, hj with
    | 0, hj =>
      simp at hj; subst hj
      have e : ad.add 0 = ad := by unfold Addr.add; simp
      rw [e, hh]
      exact hc
    | (j + 1), hj => simp at hj
  have hold : ∀ w', w'.heap = w.heap → (Builtin.firstCells i.size bs.length (.slice (some ⟨g, 0, none⟩) bs.length cap)).run Tryz.prog w' = .ok (byteCells bs).toArray w' := by
    intro w' hw
    refine run_firstCells_some (P := Tryz.prog) w' i.size bs.length ⟨g, 0, none⟩ bs.length cap (byteCells bs) (by rw [hz1, byteCells_length, Nat.mul_one]) ?_
    intro j u hj
    have e : (⟨g, 0, none⟩ : Addr).add j = ⟨g, j, none⟩ := by unfold Addr.add; split <;> simp_all
    rw [e, cell_of_row w' g j cs 5 fr (by rw [hw]; exact h2)]
    unfold byteCells at hj
    rw [List.getElem?_map] at hj
    obtain ⟨b, hb, rfl⟩ := Option.map_eq_some_iff.1 hj
    exact h5 j b hb
  have hlen : ∀ w', (Builtin.lenOf (.slice (some ad) 1 1)).run Tryz.prog w' = .ok 1 w' := by
    intro w'
    simp [Builtin.lenOf, Sem.run_pure]
  have hu45 := under45
  by_cases hroom : bs.length + 1 ≤ cap
  · obtain ⟨w', cs', g1, g2, g3, g4⟩ := store_cells (P := Tryz.prog) bs.length [.int .u8 (y.toNat : Int)] 0 w cs h2 (by simp; omega) (fun j p q => h6 j (by simp at q; omega)) (by intro u hu; simp at hu; subst hu; rfl)
    refine ⟨_, _, _, w', run_append_place (P := Tryz.prog) (w := w) (w' := w') (ats := #[45, 45]) (ty := 45) (args := #[.slice (some ⟨g, 0, none⟩) bs.length cap, .slice (some ad) 1 1]) rfl rfl hu45 hu45 (fun k => by intro hh; cases hh) hi rfl rfl hlen (hnew w rfl) hroom ?_, ?_, ?_⟩
    · simp only
      rw [hz1, Nat.mul_one]
      have e : (⟨g, 0, none⟩ : Addr).add bs.length = ⟨g, bs.length, none⟩ := by unfold Addr.add; split <;> simp_all
      rw [e]
      exact g1
    · refine ⟨g, cap, cs', fr, by simp, h1, g2.row, by rw [g3]; exact h3, by simpa using hroom, ?_, by rw [g3]; exact h6⟩
      intro j b hj
      rw [g4 j]
      by_cases e : j < bs.length
      · rw [if_neg (by simp; omega)]
        rw [List.getElem?_append_left e] at hj
        exact h5 j b hj
      · rw [List.getElem?_append_right (by omega)] at hj
        have : j = bs.length := by
          have := (List.getElem?_eq_some_iff.1 hj).1
          simp at this; omega
        subst this
        simp at hj
        subst hj
        rw [if_pos (by simp)]
        simp
    · exact ⟨g2.os, g2.tape, g2.output, by rw [g2.size]; exact Nat.le_refl _, fun k hk => g2.far k (by omega)⟩
  · obtain ⟨cap', hcap, hr⟩ := run_append_fresh (P := Tryz.prog) (w := w) (ats := #[45, 45]) (ty := 45) (args := #[.slice (some ⟨g, 0, none⟩) bs.length cap, .slice (some ad) 1 1]) (z := .int .u8 0) (i := i) rfl rfl hu45 hu45 (fun k => by intro hh; cases hh) hi hz0 rfl rfl hlen hold hnew (by omega) (by omega) (by rw [hz2]; exact growslice_fits (by omega) (by omega))
    refine ⟨_, _, _, _, hr, ?_, ?_⟩
    · refine ⟨w.heap.size, cap', (byteCells bs).toArray ++ [Value.int .u8 (y.toNat : Int)].toArray ++ Builtin.zeroCells (Value.int .u8 0).cells (cap' - (bs.length + 1)), (0, 0), by simp, hB, ?_, ?_, by simpa using hcap, ?_, ?_⟩
      · show (w.heap.push _)[w.heap.size]? = _
        rw [Array.getElem?_push_size]
      · have hz1 : (Value.int IntKind.u8 0).cells.size = 1 := rfl
        simp only [Array.size_append, List.size_toArray, size_zeroCells, hz1, byteCells_length]
        simp
        omega
      · intro j b hj
        have hlt := (List.getElem?_eq_some_iff.1 hj).1
        rw [Array.getElem?_append_left (by simp [byteCells_length]; simpa using hlt)]
        have e : (byteCells bs).toArray ++ [Value.int .u8 (y.toNat : Int)].toArray = (byteCells (bs ++ [y])).toArray := by
          rw [byteCells_append]; simp [byteCells]
        rw [e]
        unfold byteCells
        rw [List.getElem?_toArray, List.getElem?_map, hj]
        rfl
      · intro i hi hh
        exact Nat.not_lt_zero i hh.2
    · exact ⟨rfl, rfl, rfl, by simp, fun k hk => by
        show (w.heap.push _)[k]? = w.heap[k]?
        rw [Array.getElem?_push_lt (by omega), Array.getElem?_eq_getElem (by omega)]⟩
theorem cell_new1 (w : World) (x : Value) (t : TypeId) : (w.alloc (.cells #[x] t)).cell? ⟨w.heap.size, 0, none⟩ = some x := (Blk.new w t #[x]).cell 0
/-- A text with the first bytes of its check sum behind. -/
def sealTo (l : List UInt8) : Nat → List UInt8
  | 0 => l
  | k + 1 => sealTo l k ++ [byteAt (crcB l) k]
theorem sealTo_len (l : List UInt8) : ∀ k, (sealTo l k).length = l.length + k
  | 0 => rfl
  | k + 1 => by unfold sealTo; rw [List.length_append, sealTo_len l k]; rfl
theorem sealTo_all (l : List UInt8) : sealTo l 4 = sealB l := by simp [sealTo, sealB]
theorem byteAt_val (c : BitVec 32) (k : Nat) : ((byteAt c k).toNat : Int) = (c.toNat : Int) / (2 ^ (8 * k) : Nat) % 256 := by
  unfold byteAt
  rw [UInt8.toNat_ofNat']
  omega
structure SealAt (w wr : World) (l : List UInt8) (k : Nat) (v : Value) : Prop where
  bf : Bf wr w.heap.size (sealTo l k) v
  below : Below w.heap.size w wr
theorem Bf.keep {w w' : World} {B : Nat} {bs : List UInt8} {v : Value} (h : Bf w B bs v) (hb : Below w.heap.size w w') : Bf w' B bs v := by
  obtain ⟨g, cap, cs, fr, h0, h1, h2, h3⟩ := h.out
  exact ⟨g, cap, cs, fr, h0, h1, (hb.block g (Array.getElem?_eq_some_iff.1 h2).1).trans h2, h3⟩
theorem Bf.slice {w : World} {B : Nat} {bs : List UInt8} {v : Value} (h : Bf w B bs v) : ∃ A m q, v = .slice A m q := by
  obtain ⟨g, cap, cs, fr, h0, _⟩ := h.out
  exact ⟨_, _, _, h0⟩
theorem wpList_seal {ops : Array Oper} {rest : List Oper} {o : Oper} {a : Act} {Q : Exit → Act → World → Prop} (hgd : o.guard = none) (s x : Operand) (hty : o.type = 45)
    (ho : o.op = .call { callee := .builtin .append, args := #[s, x], argTypes := #[45, 45] })
    {w wr : World} {l : List UInt8} {n : Nat} {v : Value} (h : SealAt w wr l n v) (hl : l.length ≤ 4000) (hn : n ≤ 4) (c : Int) (hc : c = (byteAt (crcB l) n).toNat) (hs : a.eval s = v) (hx : a.eval x = .slice (some ⟨wr.heap.size, 0, none⟩) 1 1)
    (k : ∀ A m q w1, SealAt w w1 l (n + 1) (.slice A m q) → wpList Tryz.prog ops Q rest (a.put o.dst (.slice A m q)) w1) : wpList Tryz.prog ops Q (o :: rest) a (wr.alloc (.cells #[.int .u8 c] 5)) := by
  have hb := (Below.refl wr.heap.size wr).alloc (Nat.le_refl _) (.cells #[.int .u8 c] 5)
  have hsz := h.below.size
  obtain ⟨A, m, q, w1, hr, g1, g2⟩ := run_bf (ad := ⟨wr.heap.size, 0, none⟩) (y := byteAt (crcB l) n) (h.bf.keep hb) (by simp; omega) (by subst hc; exact cell_new1 _ _ _) (by rw [sealTo_len]; omega)
  refine Lib.wpList_append_run _ hgd s x 45 45 ho v _ hs hx (.slice A m q) w1 (by rw [hty]; exact hr) ?_
  exact k A m q w1 ⟨g1, (h.below.trans ⟨hb.os, hb.tape, hb.output, hb.size, fun i hi => hb.block i (by omega)⟩).trans g2⟩
set_option maxHeartbeats 2000000 in
theorem seal_calls (l : List UInt8) (w : World) (hl : l.length ≤ 4000) : Calls Tryz.prog 142 #[strOf l] w fun e w' => e = .returned (strOf (sealB l)) ∧ Below w.heap.size w w' := by
  have HL := Aside.mk hl
  obtain ⟨v, w1, hr, hb, hbf⟩ := conv_bf l w
  obtain ⟨A, m, q, rfl⟩ := hbf.slice
  have HB := Aside.mk hb
  have HF := Aside.mk hbf
  clear hb hbf hl
  obtain ⟨s, hs⟩ : ∃ s, strOf l = .string s := ⟨_, rfl⟩
  rw [hs] at hr
  have HS := Aside.mk hs
  rw [hs]
  clear hs
  go_enter Tryz.func142, Tryz.ntmps142
  go_wp2_with (go_at_call 200; refine (csum_calls _ _ l _ (by rw [HS.out]; exact cell_new1 _ _ _) (by have := HL.out; omega)).mono ?_; rintro e w2 ⟨rfl, h2⟩; have H2 := Aside.mk h2; clear h2)
  clear hr
  have HA : Aside (SealAt w w2 l 0 (.slice A m q)) := by
    have hb1 := (Below.refl w1.heap.size w1).alloc (Nat.le_refl _) (.cells #[Value.string s] 9)
    exact ⟨⟨(HF.out.keep hb1).keep H2.out, below_then (below_then HB.out HB.out.size hb1) (by have := HB.out.size; simp; omega) H2.out⟩⟩
  have hc32 : (crcB l).toNat < 4294967296 := (crcB l).isLt
  have HY := Aside.mk (byteAt_val (crcB l))
  go_loopw [3, 5] (fun v i wr => ∃ k : Nat, k ≤ 4 ∧ i = .int .i64 k ∧ (∃ A m q, v = .slice A m q) ∧ Aside (SealAt w wr l k v)) (fun _ i _ => 4 - (intOf i).toNat)
  case atStart => exact ⟨0, by omega, rfl, ⟨_, _, _, rfl⟩, HA⟩
  case round =>
    obtain ⟨k, hk, rfl, ⟨A, m, q, rfl⟩, HK⟩ := hrel
    have hk5 : k = 0 ∨ k = 1 ∨ k = 2 ∨ k = 3 ∨ k = 4 := by omega
    rcases hk5 with rfl | rfl | rfl | rfl | rfl
    · go_wp2_with (at_builtin; refine wpList_seal (v := .slice A m q) rfl (.tmp 15) (.tmp 22) rfl rfl HK.out HL.out (by decide) _ (by rw [HY.out]; simp) rfl rfl ?_; intro A' m' q' w3 h3; have H3 := Aside.mk h3; clear h3)
      go_round
      case rel => exact ⟨1, by omega, rfl, ⟨_, _, _, rfl⟩, H3⟩
      case measure => simp [intOf]
    · go_wp2_with (at_builtin; refine wpList_seal (v := .slice A m q) rfl (.tmp 15) (.tmp 22) rfl rfl HK.out HL.out (by decide) _ (by rw [HY.out]; simp) rfl rfl ?_; intro A' m' q' w3 h3; have H3 := Aside.mk h3; clear h3)
      go_round
      case rel => exact ⟨2, by omega, rfl, ⟨_, _, _, rfl⟩, H3⟩
      case measure => simp [intOf]
    · go_wp2_with (at_builtin; refine wpList_seal (v := .slice A m q) rfl (.tmp 15) (.tmp 22) rfl rfl HK.out HL.out (by decide) _ (by rw [HY.out]; simp) rfl rfl ?_; intro A' m' q' w3 h3; have H3 := Aside.mk h3; clear h3)
      go_round
      case rel => exact ⟨3, by omega, rfl, ⟨_, _, _, rfl⟩, H3⟩
      case measure => simp [intOf]
    · go_wp2_with (at_builtin; refine wpList_seal (v := .slice A m q) rfl (.tmp 15) (.tmp 22) rfl rfl HK.out HL.out (by decide) _ (by rw [HY.out]; simp; try omega) rfl rfl ?_; intro A' m' q' w3 h3; have H3 := Aside.mk h3; clear h3)
      go_round
      case rel => exact ⟨4, by omega, rfl, ⟨_, _, _, rfl⟩, H3⟩
      case measure => simp [intOf]
    · have hcv := conv_back HK.out.bf
      rw [sealTo_all] at hcv
      go_wp2
      go_ret
      exact ⟨rfl, HK.out.below⟩
end Go.Proofs.YtdgjcjhicbgfaaaGreat
end

/- A sealed text opened; the sum of a datagram. Conditions: the text is short. -/
section
namespace Go.Proofs.YtdgjcjhicbgfaaaGreat
open Go.RowKit Go.Lib
set_option linter.unusedVariables false
set_option linter.unusedSimpArgs false
set_option maxRecDepth 20000

set_option maxHeartbeats 1000000 in
theorem open_ok (l : List UInt8) (w : World) (hl : l.length ≤ 4000) : Calls Tryz.prog 146 #[strOf (sealB l)] w fun e w' => e = .returned (.tuple #[strOf l, .int .i64 0]) ∧ Below w.heap.size w w' := by
  obtain ⟨s, hs⟩ : ∃ s, s = (⟨(sealB l).toArray⟩ : ByteArray) := ⟨_, rfl⟩
  obtain ⟨n, hn⟩ : ∃ n, n = l.length := ⟨_, rfl⟩
  have hz : s.size = n + 4 := by rw [hs, hn]; simp [ByteArray.size, sealB_len]
  have hx : s.extract 0 n = ⟨l.toArray⟩ := by rw [hs, hn]; unfold sealB; exact extract_pre _ _
  have HS : Aside (strOf (sealB l) = .string s) := ⟨by rw [hs]; rfl⟩
  have HL := Aside.mk hl
  have hn4 : n ≤ 4000 := by omega
  rw [HS.out]
  unfold strOf
  clear hs hn hl
  go_enter Tryz.func146, Tryz.ntmps146
  go_wp2_with (go_at_call 142; rw [show Value.string (⟨l.toArray⟩ : ByteArray) = strOf l from rfl]; refine (seal_calls l _ HL.out).mono ?_; rintro e w1 ⟨rfl, h1⟩; rw [HS.out]; have H1 := Aside.mk h1; clear h1)
  go_ret2
  exact ⟨rfl, H1.out⟩
set_option maxHeartbeats 1000000 in
theorem open_bad (s : ByteArray) (w : World) (h4 : 4 ≤ s.size) (hl : s.size ≤ 4000) (hne : sealB (s.data.toList.take (s.size - 4)) ≠ s.data.toList) : Calls Tryz.prog 146 #[.string s] w fun e w' => e = .returned (.tuple #[strOf [], .int .i64 12]) ∧ Below w.heap.size w w' := by
  obtain ⟨l, hs⟩ : ∃ l, l = s.data.toList.take (s.size - 4) := ⟨_, rfl⟩
  obtain ⟨n, hn⟩ : ∃ n, n = s.size - 4 := ⟨_, rfl⟩
  have hz : s.size = n + 4 := by omega
  have hll : l.length = n := by rw [hs, List.length_take, Array.length_toList, ← hn]; exact Nat.min_eq_left (by show n ≤ s.size; omega)
  have hx : s.extract 0 n = ⟨l.toArray⟩ := by
    apply ByteArray.ext
    rw [ByteArray.data_extract, hs, ← hn]
    apply Array.ext'
    simp [List.extract_eq_take_drop]
  obtain ⟨u, hu⟩ : ∃ u : ByteArray, u = ⟨(sealB l).toArray⟩ := ⟨_, rfl⟩
  have hus : u ≠ s := by
    rw [hu]
    intro e
    apply hne
    rw [← hs, ← e]
  have hub : (u.toList == s.toList) = false := by
    rw [ByteArray.toList_eq, ByteArray.toList_eq, beq_eq_false_iff_ne]
    intro e
    exact hus (by cases u; cases s; simp at e; rw [e])
  have HU : Aside (strOf (sealB l) = .string u) := ⟨by rw [hu]; rfl⟩
  have HL : Aside (l.length ≤ 4000) := ⟨by omega⟩
  have hn4 : n ≤ 4000 := by omega
  unfold strOf
  clear hs hn hl hne h4 hll hu
  go_enter Tryz.func146, Tryz.ntmps146
  go_wp2_with (go_at_call 142; rw [show Value.string (⟨l.toArray⟩ : ByteArray) = strOf l from rfl]; refine (seal_calls l _ HL.out).mono ?_; rintro e w1 ⟨rfl, h1⟩; rw [HU.out]; have H1 := Aside.mk h1; clear h1)
  go_ret2
  exact ⟨rfl, H1.out⟩
theorem cells_str {w : World} {b : Nat} {l : List UInt8} (q : Nat) (h : ∀ (j : Nat) (x : UInt8), l[j]? = some x → w.cell? ⟨b, j, none⟩ = some (.int .u8 x.toNat)) : (convert 45 9 (.slice (some ⟨b, 0, none⟩) l.length q)).run Tryz.prog w = .ok (strOf l) w := by
  refine run_convert_bytes_back w 45 9 5 ⟨b, 0, none⟩ q l under45 (by kernel_rfl) (by kernel_rfl) ?_
  intro j hj
  have e : (⟨b, 0, none⟩ : Addr).add j = ⟨b, j, none⟩ := by unfold Addr.add; split <;> simp_all
  rw [e]
  exact h j _ (List.getElem?_eq_getElem hj)
def bytesV (l : List UInt8) : Value := .agg (byteCells l).toArray
theorem WrAt.step {B p : Nat} {l l' : List UInt8} {w w1 w2 : World} (h : WrAt B p l w w1) (k : WrAt B p l' w1 w2) : WrAt B p l' w w2 := ⟨k.wr, h.below.trans k.below, k.size⟩
theorem be16_len (n : Nat) : (be16 n).length = 2 := rfl
theorem srcB_len : srcB.length = 4 := rfl
theorem dstB_len : dstB.length = 4 := rfl
theorem mk_size (l : List UInt8) : (ByteArray.mk l.toArray).size = l.length := by simp [ByteArray.size]
theorem str_len (s : ByteArray) : s.data.toList.length = s.size := by rw [Array.length_toList]; rfl
set_option maxHeartbeats 2000000 in
theorem usum_calls (s : ByteArray) (w : World) (hl : s.size ≤ 4000) : Calls Tryz.prog 100 #[bytesV srcB, bytesV dstB, .string s] w fun e w' => e = .returned (.int .i64 (udpSum s.data.toList)) ∧ Below w.heap.size w w' := by
  have HL := Aside.mk hl
  have hsrc : bytesV srcB = .agg #[.int .u8 10, .int .u8 0, .int .u8 0, .int .u8 0] := rfl
  have hdst : bytesV dstB = .agg #[.int .u8 224, .int .u8 224, .int .u8 0, .int .u8 10] := rfl
  rw [hsrc, hdst]
  clear hsrc hdst hl
  go_enter Tryz.func100, Tryz.ntmps100
  go_wp2
  have hp : Wr (w.heap.size + 1 + 1) (w.heap.size + 1 + 1) [] (((w.alloc (.cells #[.int .u8 10, .int .u8 0, .int .u8 0, .int .u8 0] 119)).alloc (.cells #[.int .u8 224, .int .u8 224, .int .u8 0, .int .u8 10] 119)).alloc (.cells #[.slice none 0 0, .bool false] 244)) := by
    refine ⟨.slice none 0 0, ?_, World.ownsRowF_nil _ _ _ _, by simp [Value.ownBlock], Nat.le_refl _⟩
    have := Blk.new ((w.alloc (.cells #[.int .u8 10, .int .u8 0, .int .u8 0, .int .u8 0] 119)).alloc (.cells #[.int .u8 224, .int .u8 224, .int .u8 0, .int .u8 10] 119)) 244 #[.slice none 0 0, .bool false]
    simpa using this
  have hA : Blk (((w.alloc (.cells #[.int .u8 10, .int .u8 0, .int .u8 0, .int .u8 0] 119)).alloc (.cells #[.int .u8 224, .int .u8 224, .int .u8 0, .int .u8 10] 119)).alloc (.cells #[.slice none 0 0, .bool false] 244)) w.heap.size 119 #[.int .u8 10, .int .u8 0, .int .u8 0, .int .u8 0] := ((Blk.new _ _ _).alloc _).alloc _
  have hB : Blk (((w.alloc (.cells #[.int .u8 10, .int .u8 0, .int .u8 0, .int .u8 0] 119)).alloc (.cells #[.int .u8 224, .int .u8 224, .int .u8 0, .int .u8 10] 119)).alloc (.cells #[.slice none 0 0, .bool false] 244)) (w.heap.size + 1) 119 #[.int .u8 224, .int .u8 224, .int .u8 0, .int .u8 10] := by
    have := (Blk.new (w.alloc (.cells #[.int .u8 10, .int .u8 0, .int .u8 0, .int .u8 0] 119)) 119 #[.int .u8 224, .int .u8 224, .int .u8 0, .int .u8 10]).alloc (.cells #[.slice none 0 0, .bool false] 244)
    simpa using this
  have hb : Below w.heap.size w (((w.alloc (.cells #[.int .u8 10, .int .u8 0, .int .u8 0, .int .u8 0] 119)).alloc (.cells #[.int .u8 224, .int .u8 224, .int .u8 0, .int .u8 10] 119)).alloc (.cells #[.slice none 0 0, .bool false] 244)) := (((Below.refl _ _).alloc (Nat.le_refl _) _).alloc (by simp) _).alloc (by simp; omega) _
  have hsz : (((w.alloc (.cells #[.int .u8 10, .int .u8 0, .int .u8 0, .int .u8 0] 119)).alloc (.cells #[.int .u8 224, .int .u8 224, .int .u8 0, .int .u8 10] 119)).alloc (.cells #[.slice none 0 0, .bool false] 244)).heap.size = w.heap.size + 1 + 1 + 1 := by simp
  generalize (((w.alloc (.cells #[.int .u8 10, .int .u8 0, .int .u8 0, .int .u8 0] 119)).alloc (.cells #[.int .u8 224, .int .u8 224, .int .u8 0, .int .u8 10] 119)).alloc (.cells #[.slice none 0 0, .bool false] 244)) = W at *
  have c1 : (convert 45 9 (.slice (some ⟨w.heap.size, 0, none⟩) 4 4)).run Tryz.prog W.drew = .ok (.string ⟨srcB.toArray⟩) W.drew := by
    refine cells_str (l := srcB) 4 ?_
    intro j x hj
    rw [show W.drew.cell? ⟨w.heap.size, j, none⟩ = W.cell? ⟨w.heap.size, j, none⟩ from rfl, hA.cell j]
    match j, hj with
    | 0, hj | 1, hj | 2, hj | 3, hj => cases hj; rfl
    | (j + 4), hj => cases hj
  have c2 : (convert 45 9 (.slice (some ⟨w.heap.size + 1, 0, none⟩) 4 4)).run Tryz.prog W.drew = .ok (.string ⟨dstB.toArray⟩) W.drew := by
    refine cells_str (l := dstB) 4 ?_
    intro j x hj
    rw [show W.drew.cell? ⟨w.heap.size + 1, j, none⟩ = W.cell? ⟨w.heap.size + 1, j, none⟩ from rfl, hB.cell j]
    match j, hj with
    | 0, hj | 1, hj | 2, hj | 3, hj => cases hj; rfl
    | (j + 4), hj => cases hj
  obtain ⟨p, hpp⟩ : ∃ p, p = w.heap.size + 1 + 1 := ⟨_, rfl⟩
  rw [← hpp] at hp hsz ⊢
  have HP := Aside.mk (show Wr p p [] W.drew from ⟨hp.out⟩)
  have HB := Aside.mk hb
  have HZ := Aside.mk hsz
  have HPP := Aside.mk hpp
  clear hp hA hB hb hsz hpp
  go_region_with (go_at_call 101; refine (wrText_calls p p [] _ _ HP.out (by decide) (by have := HZ.out; simp; omega)).mono ?_; rintro e w1 ⟨rfl, h1⟩; have H1 := Aside.mk h1; clear h1)
  all_goals
    have H2 : Aside (WrAt p p (srcB ++ dstB) W.drew w1) := ⟨by have := H1.out; simpa using this⟩
    clear H1
    have hs4 : s.size ≤ 4000 := HL.out
    go_wp2_with (first | (go_at_call 98; refine (wr16_calls p p _ _ _ H2.out.wr (by omega) (by omega) (by simp only [List.length_append, be16_len, srcB_len, dstB_len, mk_size, str_len]; omega) H2.out.size).mono ?_; rintro e w2 ⟨rfl, h2⟩; replace H2 := Aside.mk (H2.out.step h2); clear h2) | (go_at_call 101; refine (wrText_calls p p _ _ _ H2.out.wr (by simp only [List.length_append, be16_len, srcB_len, dstB_len, mk_size, str_len]; omega) H2.out.size).mono ?_; rintro e w2 ⟨rfl, h2⟩; replace H2 := Aside.mk (H2.out.step h2); clear h2) | (go_at_call 99; refine (wrBytes_calls p p _ _ H2.out.wr).mono ?_; rintro e w2 ⟨rfl, rfl⟩) | (go_at_call 109; refine (ones_calls _ _ (by simp only [List.length_append, be16_len, srcB_len, dstB_len, mk_size, str_len]; omega)).mono ?_; rintro e w2 ⟨rfl, rfl⟩))
    all_goals
      rename_i hcase
      have hsum : udpSum s.data.toList = if onesB (srcB ++ (dstB ++ (be16 17 ++ (be16 s.size ++ s.data.toList)))) = 0 then 65535 else onesB (srcB ++ (dstB ++ (be16 17 ++ (be16 s.size ++ s.data.toList)))) := by
        unfold udpSum
        simp only [str_len, List.append_assoc]
      go_ret
      refine ⟨?_, (HB.out.drew).trans ⟨H2.out.below.os, H2.out.below.tape, H2.out.below.output, H2.out.below.size, fun k hk => H2.out.below.block k (by have := HPP.out; omega)⟩⟩
      rw [hsum]
      show Ending.returned (.int .i64 _) = _
      split
      · rename_i h0
        rw [h0] at hcase
        first | rfl | (simp at hcase)
      · rename_i h0
        first | rfl | (exfalso; apply h0; simpa using hcase)
end Go.Proofs.YtdgjcjhicbgfaaaGreat
end
