/- What stands while a packet is read; a text turned into bytes. Conditions: plain lemmas, short texts. -/
import Derived.Test.YtdgjcjhicbgfaaaGreatCn
set_option linter.unusedVariables false
set_option linter.unusedSimpArgs false
namespace Go.Proofs.YtdgjcjhicbgfaaaGreat
open Go.RowKit Go.Lib
set_option linter.unusedVariables false
set_option linter.unusedSimpArgs false
set_option maxRecDepth 20000

def ipZero : Array Value := #[.int .i64 0, .bool false, .int .i64 0, .int .i64 0, .int .i64 0, .int .u8 0, .int .u8 0, .int .u8 0, .int .u8 0, .int .u8 0, .int .u8 0, .int .u8 0, .int .u8 0, .string ⟨#[]⟩]
/-- A reader, what is still to be read being short. -/
def RdL (w : World) (p : Nat) (l : List UInt8) : Prop := Rd w p l ∧ l.length ≤ 4000
theorem RdL.keep {w w' : World} {p : Nat} {l : List UInt8} (h : RdL w p l) (hb : w'.heap[p]? = w.heap[p]?) : RdL w' p l := ⟨hb.trans h.1, h.2⟩
theorem RdL.lt {w : World} {p : Nat} {l : List UInt8} (h : RdL w p l) : p < w.heap.size := Blk.lt h.1
theorem r8L {w : World} {p v : Nat} {x : UInt8} {b : List UInt8} (h : RdL w p (x :: b)) (hv : x.toNat = v) : Calls Tryz.prog 152 #[.pointer (some ⟨p, 0, none⟩)] w fun e w' => e = .returned (.int .i64 v) ∧ RdL w' p b ∧ Upon (· = p) w w' :=
  (r8_calls p x b w h.1 (by have := h.2; simp at this; omega)).mono fun e w' ⟨h1, h2, h3⟩ => ⟨by rw [h1, hv], ⟨h2, by have := h.2; simp at this; omega⟩, h3⟩
theorem r16L {w : World} {p n : Nat} {b : List UInt8} (h : RdL w p (be16 n ++ b)) (hn : n < 65536) : Calls Tryz.prog 149 #[.pointer (some ⟨p, 0, none⟩)] w fun e w' => e = .returned (.int .i64 n) ∧ RdL w' p b ∧ Upon (· = p) w w' :=
  (r16_be p n b w h.1 hn (by have := h.2; simp [be16_len] at this; omega)).mono fun e w' ⟨h1, h2, h3⟩ => ⟨h1, ⟨h2, by have := h.2; simp [be16_len] at this; omega⟩, h3⟩
theorem textL {w : World} {p n : Nat} {a b : List UInt8} (h : RdL w p (a ++ b)) (hn : a.length = n) : Calls Tryz.prog 150 #[.pointer (some ⟨p, 0, none⟩), .int .i64 n] w fun e w' => e = .returned (strOf a) ∧ RdL w' p b ∧ Upon (· = p) w w' := by
  subst hn
  exact (rText_calls p a b w h.1 (by have := h.2; omega)).mono fun e w' ⟨h1, h2, h3⟩ => ⟨h1, ⟨h2, by have := h.2; rw [List.length_append] at this; omega⟩, h3⟩
theorem bitsL {w : World} {p b1 q1 : Nat} {b : List UInt8} (h : RdL w p (0 :: 0 :: b)) (hi : Ints3 w b1 2 1 13) (hne : b1 ≠ p) : Calls Tryz.prog 163 #[.pointer (some ⟨p, 0, none⟩), .slice (some ⟨b1, 0, none⟩) 3 q1] w fun e w' => ∃ g c, e = .returned (.slice (some ⟨g, 0, none⟩) 3 c) ∧ Ints3 w' g 0 0 0 ∧ w.heap.size ≤ g ∧ RdL w' p b ∧ Upon (· = p) w w' :=
  (rBits_calls p b1 q1 b w h.1 hi hne (by have := h.2; simp at this; omega)).mono fun e w' ⟨g, c, h1, h2, h3, h4, h5⟩ => ⟨g, c, h1, h2, h3, ⟨h4, by have := h.2; simp at this; omega⟩, h5⟩
/-- What stands while a packet is read: the reader in p, the answer's block o. -/
structure PD (w0 w : World) (o p : Nat) (l : List UInt8) : Prop where
  rd : RdL w p l
  out : Blk w o 121 ipZero
  le : w0.heap.size ≤ o
  lt : o < p
  below : Below w0.heap.size w0 w
theorem PD.move {w0 w w' : World} {o p : Nat} {l l' : List UInt8} (h : PD w0 w o p l) (hr : RdL w' p l') (hu : Upon (· = p) w w') : PD w0 w' o p l' := by
  have h1 := h.lt
  have h2 := h.le
  refine ⟨hr, hu.blk h.out (by omega), h2, h1, ?_⟩
  exact h.below.trans ⟨hu.os, hu.tape, hu.output, hu.size, fun k hk => hu.block k (by have := h.out.lt; omega) (by omega)⟩
theorem PD.drew {w0 w : World} {o p : Nat} {l : List UInt8} (h : PD w0 w o p l) : PD w0 w.drew o p l := ⟨h.rd, h.out, h.le, h.lt, h.below.drew⟩
theorem PD.grow {w0 w w' : World} {o p : Nat} {l : List UInt8} (h : PD w0 w o p l) (hb : Below w.heap.size w w') : PD w0 w' o p l := h.move (h.rd.keep (hb.block p h.rd.lt)) (Upon.of_below hb)
theorem PD.alloc {w0 w : World} {o p : Nat} {l : List UInt8} (h : PD w0 w o p l) (ob : Obj) : PD w0 (w.alloc ob) o p l := h.grow ((Below.refl _ _).alloc (Nat.le_refl _) _)
theorem PD.set {w0 w : World} {o p q i : Nat} {l : List UInt8} (h : PD w0 w o p l) (hq : p < q) (v : Value) : PD w0 (w.setCell ⟨q, i, none⟩ v) o p l := by
  have h1 := h.lt
  have h2 := h.le
  refine ⟨h.rd.keep (Below.heap_setCell w ⟨q, i, none⟩ v p (by simp; omega)), h.out.far (by simp; omega) v, h2, h1, ?_⟩
  exact (Upon.of_below (S := (· = q)) ⟨h.below.os, h.below.tape, h.below.output, h.below.size, h.below.block⟩).set _ _ (.inl rfl) |>.below (Nat.le_refl _) (fun i hi => by omega)
theorem PD.first {w : World} {w1 : World} {l : List UInt8} {o : Nat} (ho : o = w.heap.size) (hl : l.length ≤ 4000) (h1 : Rd w1 (w.alloc (.cells ipZero 121)).heap.size l) (h2 : Below (w.alloc (.cells ipZero 121)).heap.size (w.alloc (.cells ipZero 121)) w1) : PD w w1 o (o + 1) l := by
  subst ho
  have e : (w.alloc (.cells ipZero 121)).heap.size = w.heap.size + 1 := by simp
  refine ⟨⟨by rw [← e]; exact h1, hl⟩, (Blk.new _ _ _).below h2, Nat.le_refl _, Nat.lt_succ_self _, ?_⟩
  exact below_then ((Below.refl _ _).alloc (Nat.le_refl _) _) (by rw [e]; omega) h2
/-- And the packet's block q. -/
structure PQ (w0 w : World) (o p q : Nat) (l : List UInt8) (cs : Array Value) : Prop where
  pd : PD w0 w o p l
  blk : Blk w q 121 cs
  lt : p < q
theorem PQ.move {w0 w w' : World} {o p q : Nat} {l l' : List UInt8} {cs : Array Value} (h : PQ w0 w o p q l cs) (hr : RdL w' p l') (hu : Upon (· = p) w w') : PQ w0 w' o p q l' cs :=
  ⟨h.pd.move hr hu, hu.blk h.blk (by have := h.lt; omega), h.lt⟩
theorem PQ.set {w0 w : World} {o p q : Nat} {l : List UInt8} {cs : Array Value} (h : PQ w0 w o p q l cs) (i : Nat) (v : Value) : PQ w0 (w.setCell ⟨q, i, none⟩ v) o p q l (cs.setIfInBounds i v) :=
  ⟨h.pd.set h.lt v, h.blk.set i v, h.lt⟩
theorem PQ.drew {w0 w : World} {o p q : Nat} {l : List UInt8} {cs : Array Value} (h : PQ w0 w o p q l cs) : PQ w0 w.drew o p q l cs := ⟨h.pd.drew, h.blk, h.lt⟩
theorem PQ.grow {w0 w w' : World} {o p q : Nat} {l : List UInt8} {cs : Array Value} (h : PQ w0 w o p q l cs) (hb : Below w.heap.size w w') : PQ w0 w' o p q l cs :=
  h.move (h.pd.rd.keep (hb.block p h.pd.rd.lt)) (Upon.of_below hb)
theorem under119 : Tryz.prog.underlying 119 = some (.array 4 5) := by kernel_rfl
theorem array_at {t : TypeId} {n : Nat} {e : TypeId} (hu : Tryz.prog.underlying t = some (.array n e)) (A : Addr) (c : Nat) (W : World) : (Instr.arrayAt t (.slice (some A) n c)).run Tryz.prog W = .ok (.pointer (some A)) W := by
  simp [Instr.arrayAt, underlying, hu]
/-- A text turned into bytes: the world behind. -/
def cvW (l : List UInt8) (W : World) : World := W.drew.alloc (.cells (bytesRow ⟨l.toArray⟩ (grownCap W (⟨l.toArray⟩ : ByteArray).size 0 5)) 5 ((bytesRow ⟨l.toArray⟩ (grownCap W (⟨l.toArray⟩ : ByteArray).size 0 5)).size, (bytesRow ⟨l.toArray⟩ (grownCap W (⟨l.toArray⟩ : ByteArray).size 0 5)).size + 1))
theorem cvW_run (l : List UInt8) (W : World) : (convert 9 45 (strOf l)).run Tryz.prog W = .ok (.slice (some ⟨W.heap.size, 0, none⟩) l.length (grownCap W l.length 0 5)) (cvW l W) := by
  have hr := run_bytes_of_string (P := Tryz.prog) W 9 45 5 ⟨l.toArray⟩ (by kernel_rfl) under45 (by kernel_rfl)
  rw [show (⟨l.toArray⟩ : ByteArray).size = l.length from mk_size l] at hr
  unfold strOf cvW
  rw [show (⟨l.toArray⟩ : ByteArray).size = l.length from mk_size l]
  exact hr
theorem cvW_size (l : List UInt8) (W : World) : (cvW l W).heap.size = W.heap.size + 1 := by
  show (W.heap.push _).size = _
  simp
theorem cvW_below (l : List UInt8) (W : World) : Below W.heap.size W (cvW l W) := ⟨rfl, rfl, rfl, by rw [cvW_size]; omega, fun k hk => by
  show (W.heap.push _)[k]? = W.heap[k]?
  rw [Array.getElem?_push_lt hk, Array.getElem?_eq_getElem hk]⟩
theorem cvW_old {l : List UInt8} {W : World} {g j : Nat} (h : g < W.heap.size) : (cvW l W).cell? ⟨g, j, none⟩ = W.cell? ⟨g, j, none⟩ := World.cell?_of_block ((cvW_below l W).block g h)
theorem cvW_melt {l : List UInt8} {W : World} {g j : Nat} (h : g < W.heap.size) : (cvW l W).frozen? ⟨g, j, none⟩ = W.frozen? ⟨g, j, none⟩ := by
  unfold World.frozen?
  simp only [(cvW_below l W).block g h]
theorem cvW_new (l : List UInt8) (W : World) (j : Nat) (x : UInt8) (h : l[j]? = some x) : (cvW l W).cell? ⟨W.heap.size, j, none⟩ = some (.int .u8 x.toNat) := by
  have hj := (List.getElem?_eq_some_iff.1 h).1
  unfold cvW
  rw [show W.heap.size = W.drew.heap.size from rfl, World.cell?_alloc_mark, bytesRow_at _ _ _ (by simpa using hj)]
  obtain ⟨h1, h2⟩ := List.getElem?_eq_some_iff.1 h
  subst h2
  simp
set_option maxHeartbeats 1000000 in
theorem textW {w : World} {p n : Nat} {a b : List UInt8} (h : RdL w p (a ++ b)) (hna : a.length = n) : Calls Tryz.prog 150 #[.pointer (some ⟨p, 0, none⟩), .int .i64 n] w fun e w' => e = .returned (strOf a) ∧ w.setCell ⟨p, 0, none⟩ (strOf b) = w' := by
  have c0 : w.cell? ⟨p, 0, none⟩ = some (strOf (a ++ b)) := Blk.cell h.1 0
  have f0 := Blk.frozen h.1 0
  have H := Aside.mk h
  obtain ⟨s, hs⟩ : ∃ s : ByteArray, s = ⟨(a ++ b).toArray⟩ := ⟨_, rfl⟩
  have hz : s.size = a.length + b.length := by rw [hs]; simp [ByteArray.size]
  have HS := Aside.mk hs
  have HN := Aside.mk hna
  have hle : n ≤ s.size := by omega
  have hsz : s.size ≤ 5000 := by rw [hz]; have := h.2; rw [List.length_append] at this; omega
  have HZ := Aside.mk hz
  unfold strOf at c0
  rw [← hs] at c0
  have he : ((n : Int) ≤ (s.size : Int)) := by omega
  clear h hs hz hna
  go_enter Tryz.func150, Tryz.ntmps150
  go_wp2_with (go_at_call 169; refine (err_calls _ _ _ H.out.1).mono ?_; rintro e w' ⟨rfl, rfl⟩)
  go_ret
  refine ⟨?_, ?_⟩
  · show Ending.returned (.string (s.extract 0 n)) = _
    rw [HS.out, ← HN.out, extract_pre]
    rfl
  · rw [HZ.out, ← HN.out, HS.out, extract_suf _ _ _ (by simp)]
    rfl
theorem RdL.text {w : World} {p : Nat} {a b : List UInt8} (h : RdL w p (a ++ b)) : RdL (w.setCell ⟨p, 0, none⟩ (strOf b)) p b :=
  ⟨Blk.set h.1 0 (strOf b), by have := h.2; rw [List.length_append] at this; omega⟩
theorem PQ.text {w0 w : World} {o p q : Nat} {a b : List UInt8} {cs : Array Value} (h : PQ w0 w o p q (a ++ b) cs) : PQ w0 (w.setCell ⟨p, 0, none⟩ (strOf b)) o p q b cs :=
  h.move (RdL.text h.pd.rd) ((Upon.refl (· = p) w).setg rfl _ _)
theorem PQ.cv {w0 w : World} {o p q : Nat} {l x : List UInt8} {cs : Array Value} (h : PQ w0 w o p q l cs) : PQ w0 (cvW x w) o p q l cs := h.grow (cvW_below x w)
end Go.Proofs.YtdgjcjhicbgfaaaGreat
