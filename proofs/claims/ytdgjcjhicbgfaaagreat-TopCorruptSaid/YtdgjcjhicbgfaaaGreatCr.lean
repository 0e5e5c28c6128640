/- A frame read, all of it. Conditions: it is one that was made here. -/
import Derived.Test.YtdgjcjhicbgfaaaGreatCq
set_option linter.unusedVariables false
set_option linter.unusedSimpArgs false
namespace Go.Proofs.YtdgjcjhicbgfaaaGreat
open Go.RowKit Go.Lib
set_option linter.unusedVariables false
set_option linter.unusedSimpArgs false
set_option maxRecDepth 20000

/-- What stands while a frame is read: the reader in p, the answer's block o. -/
structure FD (w0 w : World) (o p : Nat) (l : List UInt8) : Prop where
  rd : RdL w p l
  out : Blk w o 117 frZero
  le : w0.heap.size ≤ o
  lt : o < p
  below : Below w0.heap.size w0 w
theorem FD.move {w0 w w' : World} {o p : Nat} {l l' : List UInt8} (h : FD w0 w o p l) (hr : RdL w' p l') (hu : Upon (· = p) w w') : FD w0 w' o p l' := by
  have h1 := h.lt
  have h2 := h.le
  refine ⟨hr, hu.blk h.out (by omega), h2, h1, ?_⟩
  exact h.below.trans ⟨hu.os, hu.tape, hu.output, hu.size, fun k hk => hu.block k (by have := h.out.lt; omega) (by omega)⟩
theorem FD.drew {w0 w : World} {o p : Nat} {l : List UInt8} (h : FD w0 w o p l) : FD w0 w.drew o p l := ⟨h.rd, h.out, h.le, h.lt, h.below.drew⟩
theorem FD.grow {w0 w w' : World} {o p : Nat} {l : List UInt8} (h : FD w0 w o p l) (hb : Below w.heap.size w w') : FD w0 w' o p l := h.move (h.rd.keep (hb.block p h.rd.lt)) (Upon.of_below hb)
theorem FD.alloc {w0 w : World} {o p : Nat} {l : List UInt8} (h : FD w0 w o p l) (ob : Obj) : FD w0 (w.alloc ob) o p l := h.grow ((Below.refl _ _).alloc (Nat.le_refl _) _)
theorem FD.set {w0 w : World} {o p q i : Nat} {l : List UInt8} (h : FD w0 w o p l) (hq : p < q) (v : Value) : FD w0 (w.setCell ⟨q, i, none⟩ v) o p l := by
  have h1 := h.lt
  have h2 := h.le
  refine ⟨h.rd.keep (Below.heap_setCell w ⟨q, i, none⟩ v p (by simp; omega)), h.out.far (by simp; omega) v, h2, h1, ?_⟩
  exact (Upon.of_below (S := (· = q)) ⟨h.below.os, h.below.tape, h.below.output, h.below.size, h.below.block⟩).set _ _ (.inl rfl) |>.below (Nat.le_refl _) (fun i hi => by omega)
theorem FD.first {w : World} {w1 : World} {l : List UInt8} {o : Nat} (ho : o = w.heap.size) (hl : l.length ≤ 4000) (h1 : Rd w1 (w.alloc (.cells frZero 117)).heap.size l) (h2 : Below (w.alloc (.cells frZero 117)).heap.size (w.alloc (.cells frZero 117)) w1) : FD w w1 o (o + 1) l := by
  subst ho
  have e : (w.alloc (.cells frZero 117)).heap.size = w.heap.size + 1 := by simp
  refine ⟨⟨by rw [← e]; exact h1, hl⟩, (Blk.new _ _ _).below h2, Nat.le_refl _, Nat.lt_succ_self _, ?_⟩
  exact below_then ((Below.refl _ _).alloc (Nat.le_refl _) _) (by rw [e]; omega) h2
/-- And the frame's block q. -/
structure FQ (w0 w : World) (o p q : Nat) (l : List UInt8) (cs : Array Value) : Prop where
  fd : FD w0 w o p l
  blk : Blk w q 117 cs
  lt : p < q
theorem FQ.move {w0 w w' : World} {o p q : Nat} {l l' : List UInt8} {cs : Array Value} (h : FQ w0 w o p q l cs) (hr : RdL w' p l') (hu : Upon (· = p) w w') : FQ w0 w' o p q l' cs :=
  ⟨h.fd.move hr hu, hu.blk h.blk (by have := h.lt; omega), h.lt⟩
theorem FQ.set {w0 w : World} {o p q : Nat} {l : List UInt8} {cs : Array Value} (h : FQ w0 w o p q l cs) (i : Nat) (v : Value) : FQ w0 (w.setCell ⟨q, i, none⟩ v) o p q l (cs.setIfInBounds i v) :=
  ⟨h.fd.set h.lt v, h.blk.set i v, h.lt⟩
theorem FQ.drew {w0 w : World} {o p q : Nat} {l : List UInt8} {cs : Array Value} (h : FQ w0 w o p q l cs) : FQ w0 w.drew o p q l cs := ⟨h.fd.drew, h.blk, h.lt⟩
theorem FQ.grow {w0 w w' : World} {o p q : Nat} {l : List UInt8} {cs : Array Value} (h : FQ w0 w o p q l cs) (hb : Below w.heap.size w w') : FQ w0 w' o p q l cs :=
  h.move (h.fd.rd.keep (hb.block p h.fd.rd.lt)) (Upon.of_below hb)
theorem FQ.text {w0 w : World} {o p q : Nat} {a b : List UInt8} {cs : Array Value} (h : FQ w0 w o p q (a ++ b) cs) : FQ w0 (w.setCell ⟨p, 0, none⟩ (strOf b)) o p q b cs :=
  h.move (RdL.text h.fd.rd) ((Upon.refl (· = p) w).setg rfl _ _)
theorem FQ.cv {w0 w : World} {o p q : Nat} {l x : List UInt8} {cs : Array Value} (h : FQ w0 w o p q l cs) : FQ w0 (cvW x w) o p q l cs := h.grow (cvW_below x w)
theorem FD.text {w0 w : World} {o p : Nat} {a b : List UInt8} (h : FD w0 w o p (a ++ b)) : FD w0 (w.setCell ⟨p, 0, none⟩ (strOf b)) o p b :=
  h.move (RdL.text h.rd) ((Upon.refl (· = p) w).setg rfl _ _)
theorem FD.toQ {w0 w : World} {o p q : Nat} {l : List UInt8} (h : FD w0 w o p l) (hq : q = w.heap.size) (cs : Array Value) : FQ w0 (w.alloc (.cells cs 117)) o p q l cs := by
  subst hq
  exact ⟨h.alloc _, Blk.new _ _ _, h.rd.lt⟩
theorem drop_at' {α : Type} {l : List α} {i : Nat} {f : α} (h : l[i]? = some f) : l.drop i = f :: l.drop (i + 1) := by
  obtain ⟨h1, h2⟩ := List.getElem?_eq_some_iff.1 h
  rw [List.drop_eq_getElem_cons h1, h2]
/-- Only one slot, and the slots from lo on, k of them, have turned. -/
structure SameBut1 (i0 lo k : Nat) (v : Value) (a a' : Act) : Prop where
  defers : a'.defers = a.defers
  front : a'.tmps.toList.take i0 = a.tmps.toList.take i0
  slot : a'.tmps.toList[i0]? = some v
  mid : (a'.tmps.toList.drop (i0 + 1)).take (lo - (i0 + 1)) = (a.tmps.toList.drop (i0 + 1)).take (lo - (i0 + 1))
  back : a'.tmps.toList.drop (lo + k) = a.tmps.toList.drop (lo + k)
  size : a'.tmps.size = a.tmps.size
def RegP1 (i0 lo k : Nat) (J : Value → World → Prop) (a : Act) (a' : Act) (w' : World) : Prop := ∃ v, J v w' ∧ SameBut1 i0 lo k v a a'
theorem SameBut1.act {i0 lo k : Nat} {v : Value} {a a' : Act} (h : SameBut1 i0 lo k v a a') (hi : i0 < lo) (hk : lo + k ≤ a.tmps.size) : ∃ xs : List Value, xs.length = k ∧ a' = { a with tmps := (a.tmps.toList.take i0 ++ (v :: ((a.tmps.toList.drop (i0 + 1)).take (lo - (i0 + 1)) ++ (xs ++ a.tmps.toList.drop (lo + k))))).toArray } := by
  refine ⟨(a'.tmps.toList.drop lo).take k, ?_, ?_⟩
  · rw [List.length_take, List.length_drop, Array.length_toList, h.size]; omega
  · obtain ⟨t', d'⟩ := a'
    have hd : d' = a.defers := h.defers
    subst hd
    have hsl := h.slot
    simp only at hsl
    have ht : t' = (a.tmps.toList.take i0 ++ (v :: ((a.tmps.toList.drop (i0 + 1)).take (lo - (i0 + 1)) ++ ((t'.toList.drop lo).take k ++ a.tmps.toList.drop (lo + k))))).toArray := by
      apply Array.ext'
      rw [← h.front, ← h.back, ← h.mid]
      show t'.toList = t'.toList.take i0 ++ (v :: ((t'.toList.drop (i0 + 1)).take (lo - (i0 + 1)) ++ ((t'.toList.drop lo).take k ++ t'.toList.drop (lo + k))))
      have e1 : (t'.toList.drop lo).take k ++ t'.toList.drop (lo + k) = t'.toList.drop lo := by
        rw [show t'.toList.drop (lo + k) = (t'.toList.drop lo).drop k by rw [List.drop_drop], List.take_append_drop]
      have e2 : (t'.toList.drop (i0 + 1)).take (lo - (i0 + 1)) ++ t'.toList.drop lo = t'.toList.drop (i0 + 1) := by
        rw [show t'.toList.drop lo = (t'.toList.drop (i0 + 1)).drop (lo - (i0 + 1)) by rw [List.drop_drop]; congr 1; omega, List.take_append_drop]
      rw [e1, e2, ← drop_at' (l := t'.toList) (i := i0) (f := v) hsl, List.take_append_drop]
    show Act.mk t' _ = Act.mk _ _
    rw [← ht]
theorem region_post1 {P : Program} {c : Code} {Q : Exit → Act → World → Prop} {a : Act} {w : World} (i0 lo k : Nat) (J : Value → World → Prop) (hi : i0 < lo) (hk : lo + k ≤ a.tmps.size) (h1 : c.wp P (Exit.then (RegP1 i0 lo k J a) NoExit) a w)
    (h2 : ∀ (v : Value) (xs : List Value) w', xs.length = k → J v w' → Q .normal { a with tmps := (a.tmps.toList.take i0 ++ (v :: ((a.tmps.toList.drop (i0 + 1)).take (lo - (i0 + 1)) ++ (xs ++ a.tmps.toList.drop (lo + k))))).toArray } w') : c.wp P Q a w :=
  wp_mono h1 fun e a' w' h => by
    cases e with
    | normal => obtain ⟨v, hj, hs⟩ := h; obtain ⟨xs, hx, rfl⟩ := hs.act hi hk; exact h2 v xs w' hx hj
    | _ => exact h.elim
theorem cell_same3 {w : World} {q i j : Nat} {v : Value} (h : i ≠ j) : (w.setCell ⟨q, j, none⟩ v).cell? ⟨q, i, none⟩ = w.cell? ⟨q, i, none⟩ := by
  simp [World.cell?, World.setCell, Array.getElem?_modify]
  cases w.heap[q]? with
  | none => rfl
  | some o =>
    cases o <;> simp [Array.getElem?_setIfInBounds, h, Ne.symm h]
theorem frozen_blk2 {w w' : World} {b o : Nat} (h : w'.heap[b]? = w.heap[b]?) : w'.frozen? ⟨b, o, none⟩ = w.frozen? ⟨b, o, none⟩ := by
  unfold World.frozen?
  simp only [h]
set_option maxHeartbeats 8000000 in
theorem edec_ok (net seq : Nat) (d s : ByteArray) (w : World) (hs : s.data.toList = ethB net seq d.data.toList) (hd : d.size ≤ 128) (hn : net = 0 ∨ net = 1) (hq : seq ≤ 255) :
    Calls Tryz.prog 110 #[.string s] w fun e w' => e = .returned (.tuple #[.agg (frC net seq ⟨(d.data.toList ++ List.replicate (45 - d.size) 0).toArray⟩), .int .i64 0]) ∧ Below w.heap.size w w' := by
  obtain ⟨x, hx⟩ : ∃ x, x = d.data.toList ++ List.replicate (45 - d.size) (0 : UInt8) := ⟨_, rfl⟩
  obtain ⟨m, hm⟩ : ∃ m, m = x.length := ⟨_, rfl⟩
  have hm1 : 45 ≤ m ∧ m ≤ 128 := by rw [hm, hx, List.length_append, str_len, List.length_replicate]; omega
  obtain ⟨l, hl⟩ : ∃ l, l = macLB ++ (macSB net ++ (be16 2048 ++ (x ++ [UInt8.ofNat seq]))) := ⟨_, rfl⟩
  have hsl : s.data.toList = sealB l := by
    rw [hs, hl, hx]
    unfold ethB
    rw [str_len]
    congr 1
  have hll : l.length = 15 + m := by rw [hl]; simp [macLB, macSB, be16_len, hm]; omega
  have HSV : Aside (Value.string s = strOf (sealB l)) := ⟨by rw [← hsl, strOf_data]⟩
  have hz : s.size = 19 + m := by rw [← str_len, hsl, sealB_len, hll]; omega
  have HOP : Aside (∀ W : World, Calls Tryz.prog 146 #[.string s] W fun e w' => e = .returned (.tuple #[strOf l, .int .i64 0]) ∧ Below W.heap.size W w') := ⟨fun W => by rw [HSV.out]; exact open_ok l W (by rw [hll]; omega)⟩
  have HRD : Aside (∀ W : World, Calls Tryz.prog 147 #[strOf l] W fun e w' => e = .returned (.pointer (some ⟨W.heap.size, 0, none⟩)) ∧ Rd w' W.heap.size l ∧ Below W.heap.size W w') := ⟨fun W => read_calls ⟨l.toArray⟩ W⟩
  have HLL : Aside (l.length ≤ 4000) := ⟨by rw [hll]; omega⟩
  have HL := Aside.mk hl
  have HX := Aside.mk hx
  have HM := Aside.mk hm
  have HN := Aside.mk hn
  have hm45 := hm1.1
  have hm128 := hm1.2
  clear hs hsl hl hx hm hn hm1 hd hll
  go_enter Tryz.func110, Tryz.ntmps110
  obtain ⟨o, ho⟩ : ∃ o, o = w.heap.size := ⟨_, rfl⟩
  go_wp2_with (fail)
  have HO := Aside.mk (Blk.new w 117 frZero)
  have HW := Aside.mk ((Below.refl w.heap.size w).alloc (Nat.le_refl _) (.cells frZero 117))
  change Calls _ _ _ (w.alloc (.cells frZero 117)) _
  rw [← ho] at HO ⊢
  have HOE := Aside.mk ho
  generalize w.alloc (.cells frZero 117) = W at *
  refine (HOP.out _).mono ?_
  rintro e w1 ⟨rfl, h3⟩
  replace HW := Aside.mk (below_then HW.out HW.out.size h3)
  replace HO := Aside.mk (HO.out.below h3)
  clear h3 ho
  go_wp2_with (fail)
  refine (HRD.out _).mono ?_
  rintro e w2 ⟨rfl, h1, h2⟩
  have HF : Aside (FD w w2 o w1.heap.size (macLB ++ (macSB net ++ (be16 2048 ++ (x ++ [UInt8.ofNat seq]))))) := ⟨⟨by rw [← HL.out]; exact ⟨h1, HLL.out⟩, HO.out.below h2, Nat.le_of_eq HOE.out.symm, HO.out.lt, below_then HW.out HW.out.size h2⟩⟩
  clear h1 h2 HO HW
  generalize w1.heap.size = p at *
  go_wp2_with (fail)
  refine (ends_calls net HN.out p _ w2 HF.out.rd).mono ?_
  rintro e w3 ⟨rfl, h1, h2⟩
  replace HF := Aside.mk (HF.out.move h1 h2)
  have HG := Aside.mk (Blk.new w3 295 #[.int .i64 0, .int .i64 net])
  have HPG : Aside (p ≠ w3.heap.size) := ⟨by have := HF.out.rd.lt; omega⟩
  replace HF := Aside.mk (HF.out.alloc (.cells #[.int .i64 0, .int .i64 net] 295))
  clear h1 h2
  go_wp2_with (fail)
  obtain ⟨g, hg⟩ : ∃ g, g = w3.heap.size := ⟨_, rfl⟩
  rw [← hg] at HG HPG ⊢
  generalize w3.alloc (.cells #[.int .i64 0, .int .i64 net] 295) = W4 at *
  clear hg
  refine (r16L (n := 2048) HF.out.rd (by decide)).mono ?_
  rintro e w5 ⟨rfl, h1, h2⟩
  replace HF := Aside.mk (HF.out.move h1 h2)
  replace HG := Aside.mk (h2.blk HG.out (by have := HPG.out; omega))
  clear h1 h2
  go_wp2_with (fail)
  obtain ⟨q, hqq⟩ : ∃ q, q = w5.heap.size := ⟨_, rfl⟩
  obtain ⟨y, hy⟩ : ∃ y : UInt8, y = UInt8.ofNat seq := ⟨_, rfl⟩
  have HY : Aside (y.toNat = seq) := ⟨by rw [hy]; simp; omega⟩
  rw [← hy] at HF
  have HF1 := Aside.mk HF.out.drew
  have HF2 : Aside (FQ w (w5.alloc (.cells #[.int .i64 0, .int .i64 0, .int .i64 0, .int .i64 0, .string ⟨#[]⟩] 117)).drew o p q (x ++ [y]) frZero) := ⟨(HF.out.toQ (q := q) hqq frZero).drew⟩
  have HF3 := Aside.mk (HF1.out.text)
  have hpq : p < q := by rw [hqq]; exact HF.out.rd.lt
  have hgq : g < q := by rw [hqq]; exact HG.out.lt
  have e1 : p ≠ q := by omega
  have e2 : q ≠ p := by omega
  have e3 : g ≠ q := by omega
  have e4 : q ≠ g := by omega
  have e5 : p ≠ g := HPG.out
  have e6 : g ≠ p := fun h => e5 h.symm
  have k0 : w5.cell? ⟨g, 0, none⟩ = some (.int .i64 0) := HG.out.cell 0
  have k1 : w5.cell? ⟨g, 1, none⟩ = some (.int .i64 net) := HG.out.cell 1
  have a0 : (w5.alloc (.cells #[.int .i64 0, .int .i64 0, .int .i64 0, .int .i64 0, .string ⟨#[]⟩] 117)).cell? ⟨g, 0, none⟩ = some (.int .i64 0) := (HG.out.alloc _).cell 0
  have a1 : (w5.alloc (.cells #[.int .i64 0, .int .i64 0, .int .i64 0, .int .i64 0, .string ⟨#[]⟩] 117)).cell? ⟨g, 1, none⟩ = some (.int .i64 net) := (HG.out.alloc _).cell 1
  have n0 : ∀ (W : World) (b : Nat), b = W.heap.size → (W.alloc (.cells #[.int .i64 0, .int .i64 0, .int .i64 0, .int .i64 0, .string ⟨#[]⟩] 117)).cell? ⟨b, 0, none⟩ = some (.int .i64 0) := fun W b h => by subst h; exact (Blk.new W 117 frZero).cell 0
  have n1 : ∀ (W : World) (b : Nat), b = W.heap.size → (W.alloc (.cells #[.int .i64 0, .int .i64 0, .int .i64 0, .int .i64 0, .string ⟨#[]⟩] 117)).cell? ⟨b, 1, none⟩ = some (.int .i64 0) := fun W b h => by subst h; exact (Blk.new W 117 frZero).cell 1
  have n2 : ∀ (W : World) (b : Nat), b = W.heap.size → (W.alloc (.cells #[.int .i64 0, .int .i64 0, .int .i64 0, .int .i64 0, .string ⟨#[]⟩] 117)).cell? ⟨b, 2, none⟩ = some (.int .i64 0) := fun W b h => by subst h; exact (Blk.new W 117 frZero).cell 2
  have n3 : ∀ (W : World) (b : Nat), b = W.heap.size → (W.alloc (.cells #[.int .i64 0, .int .i64 0, .int .i64 0, .int .i64 0, .string ⟨#[]⟩] 117)).cell? ⟨b, 3, none⟩ = some (.int .i64 0) := fun W b h => by subst h; exact (Blk.new W 117 frZero).cell 3
  have n4 : ∀ (W : World) (b : Nat), b = W.heap.size → (W.alloc (.cells #[.int .i64 0, .int .i64 0, .int .i64 0, .int .i64 0, .string ⟨#[]⟩] 117)).cell? ⟨b, 4, none⟩ = some (.string ⟨#[]⟩) := fun W b h => by subst h; exact (Blk.new W 117 frZero).cell 4
  have n5 : ∀ (W : World) (b i : Nat), b = W.heap.size → (W.alloc (.cells #[.int .i64 0, .int .i64 0, .int .i64 0, .int .i64 0, .string ⟨#[]⟩] 117)).frozen? ⟨b, i, none⟩ = false := fun W b i h => by subst h; exact (Blk.new W 117 frZero).frozen i
  have hws : w5.heap.size = q := hqq.symm
  have hwm : IntKind.i64.wrap (m : Int) = (m : Int) := IntWalk.i64_in _ (by omega)
  have HQ : ∀ t : ByteArray, Aside (FQ w ((w5.setCell ⟨p, 0, none⟩ (strOf [y])).alloc (.cells #[.int .i64 10, .int .i64 0, .int .i64 net, .int .i64 0, .string t] 117)).drew o p q [y] #[.int .i64 10, .int .i64 0, .int .i64 net, .int .i64 0, .string t]) := fun t => ⟨((HF.out.text).toQ (q := q) (by rw [hqq]; simp [World.setCell]) _).drew⟩
  have HLEFT : Aside (∀ W : World, RdL W p (x ++ [y]) → Calls Tryz.prog 151 #[.pointer (some ⟨p, 0, none⟩)] W fun e w' => e = .returned (.int .i64 ((m : Int) + 1)) ∧ W = w') := ⟨fun W h => (left_calls p _ W h.1).mono fun e w' he => ⟨by rw [he.1, List.length_append, ← HM.out]; rfl, he.2⟩⟩
  obtain ⟨xs0, hxs⟩ : ∃ t : ByteArray, t = ⟨x.toArray⟩ := ⟨_, rfl⟩
  have HXS : Aside (Value.string xs0 = strOf x) := ⟨by rw [hxs]; rfl⟩
  have HTX : Aside (∀ W : World, RdL W p (x ++ [y]) → Calls Tryz.prog 150 #[.pointer (some ⟨p, 0, none⟩), .int .i64 (m : Int)] W fun e w' => e = .returned (.string xs0) ∧ W.setCell ⟨p, 0, none⟩ (strOf [y]) = w') := ⟨fun W h => by rw [HXS.out]; exact textW (a := x) (b := [y]) h HM.out.symm⟩
  clear hxs
  obtain ⟨J, hJ⟩ : ∃ J : Value → World → Prop, J = fun v w' => v = .pointer (some ⟨q, 0, none⟩) ∧ ∃ cs, FQ w w' o p q [y] cs ∧ cs = #[.int .i64 10, .int .i64 0, .int .i64 net, .int .i64 0, .string xs0] := ⟨_, rfl⟩
  have HJ := Aside.mk hJ
  have HQE := Aside.mk hqq
  clear hJ hy hqq
  refine region_post1 9 45 11 J (by decide) (by simp) ?_ ?_
  · go_region_held3? (fun w' => w'.cell? ⟨g, 0, none⟩ = some (.int .i64 0) ∧ w'.cell? ⟨g, 1, none⟩ = some (.int .i64 net)) (first | go_keep) (first | (go_at_call 151; with_reducible refine (HLEFT.out _ HF1.out.rd).mono ?_; rintro e w' ⟨rfl, rfl⟩) | (go_at_call 151; with_reducible refine (HLEFT.out _ HF2.out.fd.rd).mono ?_; rintro e w' ⟨rfl, rfl⟩) | (go_at_call 150; with_reducible refine (HTX.out _ HF1.out.rd).mono ?_; rintro e w' ⟨rfl, rfl⟩) | (go_at_call 150; with_reducible refine (HTX.out _ HF2.out.fd.rd).mono ?_; rintro e w' ⟨rfl, rfl⟩))
    all_goals exact ⟨_, by rw [HJ.out]; exact ⟨rfl, _, (HQ _).out, rfl⟩, rfl, rfl, rfl, rfl, rfl, rfl⟩
  intro v xs w6 hx h6
  rw [HJ.out] at h6
  obtain ⟨rfl, cs, h7, rfl⟩ := h6
  obtain ⟨x0, x1, x2, x3, x4, x5, x6, x7, x8, x9, x10, rfl⟩ : ∃ x0 x1 x2 x3 x4 x5 x6 x7 x8 x9 x10, xs = [x0, x1, x2, x3, x4, x5, x6, x7, x8, x9, x10] := by
    match xs, hx with
    | [x0, x1, x2, x3, x4, x5, x6, x7, x8, x9, x10], _ => exact ⟨x0, x1, x2, x3, x4, x5, x6, x7, x8, x9, x10, rfl⟩
  simp only [List.take_succ_cons, List.take_zero, List.drop_succ_cons, List.drop_zero, List.cons_append, List.nil_append, Nat.reduceSub, Nat.reduceAdd]
  have H7 := Aside.mk h7
  clear h7 hx HJ HQ HTX HLEFT n0 n1 n2 n3 n4 n5 a0 a1 k0 k1 HF1 HF2 HF3 HF HG
  go_wp2_with (fail)
  refine (r8L H7.out.fd.rd HY.out).mono ?_
  rintro e w8 ⟨rfl, h1, h2⟩
  replace H7 := Aside.mk (H7.out.move h1 h2)
  clear h1 h2
  have c3 : w8.cell? ⟨q, 3, none⟩ = some (.int .i64 0) := H7.out.blk.cell 3
  have f3 := H7.out.blk.frozen 3
  replace H7 := Aside.mk (H7.out.set 3 (.int .i64 seq))
  have hoq : o ≠ q := by have := H7.out.fd.lt; omega
  have hqo : q ≠ o := fun h => hoq h.symm
  have hB7 := H7.out.fd.out
  have hq7 := H7.out.blk
  have d0 : w8.cell? ⟨q, 0, none⟩ = some (.int .i64 10) := (cell_same3 (by decide)).symm.trans (hq7.cell 0)
  have d1 : w8.cell? ⟨q, 1, none⟩ = some (.int .i64 0) := (cell_same3 (by decide)).symm.trans (hq7.cell 1)
  have d2 : w8.cell? ⟨q, 2, none⟩ = some (.int .i64 net) := (cell_same3 (by decide)).symm.trans (hq7.cell 2)
  have d4 : w8.cell? ⟨q, 4, none⟩ = some (.string xs0) := (cell_same3 (by decide)).symm.trans (hq7.cell 4)
  have g0 : w8.cell? ⟨o, 0, none⟩ = some (.int .i64 0) := (cell_far hoq).symm.trans (hB7.cell 0)
  have g1 : w8.cell? ⟨o, 1, none⟩ = some (.int .i64 0) := (cell_far hoq).symm.trans (hB7.cell 1)
  have g2 : w8.cell? ⟨o, 2, none⟩ = some (.int .i64 0) := (cell_far hoq).symm.trans (hB7.cell 2)
  have g3 : w8.cell? ⟨o, 3, none⟩ = some (.int .i64 0) := (cell_far hoq).symm.trans (hB7.cell 3)
  have g4 : w8.cell? ⟨o, 4, none⟩ = some (.string ⟨#[]⟩) := (cell_far hoq).symm.trans (hB7.cell 4)
  have hfz : ∀ i, w8.frozen? ⟨o, i, none⟩ = false := fun i => (frozen_blk2 (Below.heap_setCell w8 ⟨q, 3, none⟩ (.int .i64 seq) o hoq)).symm.trans (hB7.frozen i)
  have HB7 := Aside.mk hB7
  clear hB7 hq7
  go_wp2
  have hout := ((((HB7.out.set 0 (.int .i64 10)).set 1 (.int .i64 0)).set 2 (.int .i64 net)).set 3 (.int .i64 seq)).set 4 (.string xs0)
  have hbel := (((((Upon.of_below (S := (· = w.heap.size)) H7.out.fd.below).set ⟨o, 0, none⟩ (.int .i64 10) (.inl HOE.out)).set ⟨o, 1, none⟩ (.int .i64 0) (.inl HOE.out)).set ⟨o, 2, none⟩ (.int .i64 net) (.inl HOE.out)).set ⟨o, 3, none⟩ (.int .i64 seq) (.inl HOE.out)).set ⟨o, 4, none⟩ (.string xs0) (.inl HOE.out) |>.below (Nat.le_refl _) (fun i hi => by omega)
  have hE : frC net seq ⟨(d.data.toList ++ List.replicate (45 - d.size) 0).toArray⟩ = #[.int .i64 10, .int .i64 0, .int .i64 net, .int .i64 seq, .string xs0] := by
    unfold frC
    rw [← HX.out]
    have := HXS.out
    unfold strOf at this
    rw [← this]
  rw [hE]
  refine bodyPost_ret (v := .tuple #[.agg #[.int .i64 10, .int .i64 0, .int .i64 net, .int .i64 seq, .string xs0], .int .i64 0]) ?_ rfl ⟨rfl, hbel⟩
  rw [results_cell1 rfl _ _ o 117 #[.int .i64 10, .int .i64 0, .int .i64 net, .int .i64 seq, .string xs0] (0, 0) rfl hout (by kernel_rfl) (by kernel_rfl)]
  rfl
end Go.Proofs.YtdgjcjhicbgfaaaGreat
