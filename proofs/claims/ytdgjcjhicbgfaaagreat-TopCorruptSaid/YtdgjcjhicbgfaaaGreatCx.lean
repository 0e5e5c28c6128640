/- A frame of which a byte was changed is known as such: the check sum's law. Conditions: none; plain lemmas. -/
import Derived.Test.YtdgjcjhicbgfaaaGreatMb
set_option linter.unusedVariables false
set_option linter.unusedSimpArgs false
namespace Go.Proofs.YtdgjcjhicbgfaaaGreat
namespace Crc
theorem xlc (x y z : BitVec 32) : x ^^^ (y ^^^ z) = y ^^^ (x ^^^ z) := by rw [← BitVec.xor_assoc, BitVec.xor_comm x y, BitVec.xor_assoc]
theorem rnd_xor (x y : BitVec 32) : rnd (x ^^^ y) = rnd x ^^^ rnd y := by
  unfold rnd
  rw [BitVec.ushiftRight_xor_distrib, BitVec.getLsbD_xor]
  have h0 : poly ^^^ poly = 0#32 := BitVec.xor_self
  cases x.getLsbD 0 <;> cases y.getLsbD 0
  · simp
  · simp [BitVec.xor_assoc]
  · simp only [Bool.xor_false, if_true, Bool.false_eq_true, if_false, BitVec.xor_zero]
    rw [BitVec.xor_assoc, BitVec.xor_assoc, BitVec.xor_comm (y >>> 1) poly]
  · simp only [bne_self_eq_false, Bool.false_eq_true, if_false, if_true, BitVec.xor_zero]
    rw [BitVec.xor_assoc, xlc poly, h0, BitVec.xor_zero]
theorem rnd_zero {c : BitVec 32} (h : rnd c = 0#32) : c = 0#32 := by
  have h31 : (rnd c).getLsbD 31 = c.getLsbD 0 := by
    unfold rnd
    rw [BitVec.getLsbD_xor, BitVec.getLsbD_ushiftRight]
    cases hc : c.getLsbD 0 <;> simp [poly]
  have h0 : c.getLsbD 0 = false := by rw [← h31, h]; simp
  have hs : c >>> 1 = 0#32 := by
    have := h
    unfold rnd at this
    rw [h0] at this
    simpa using this
  apply BitVec.eq_of_getLsbD_eq
  intro i hi
  cases i with
  | zero => rw [h0]; simp
  | succ i =>
    have := congrArg (fun v => BitVec.getLsbD v i) hs
    simp only [BitVec.getLsbD_ushiftRight] at this
    rw [Nat.add_comm] at this
    rw [this]
    simp
theorem rnd_inj {x y : BitVec 32} (h : rnd x = rnd y) : x = y := by
  have : rnd (x ^^^ y) = 0#32 := by rw [rnd_xor, h, BitVec.xor_self]
  have := rnd_zero this
  exact BitVec.xor_eq_zero_iff.1 this
theorem rnd8_inj {x y : BitVec 32} (h : rnd8 x = rnd8 y) : x = y := by
  unfold rnd8 at h
  exact rnd_inj (rnd_inj (rnd_inj (rnd_inj (rnd_inj (rnd_inj (rnd_inj (rnd_inj h)))))))
theorem rnd8_xor (x y : BitVec 32) : rnd8 (x ^^^ y) = rnd8 x ^^^ rnd8 y := by
  unfold rnd8
  simp only [rnd_xor]
theorem rnd_even {c : BitVec 32} (h : c.getLsbD 0 = false) : rnd c = c >>> 1 := by
  unfold rnd
  rw [h]
  simp
/-- What has no low byte moves down. -/
theorem rnd8_high {c : BitVec 32} (h : ∀ i, i < 8 → c.getLsbD i = false) : rnd8 c = c >>> 8 := by
  have e : ∀ k, k < 8 → rnd (c >>> k) = c >>> (k + 1) := by
    intro k hk
    rw [rnd_even, BitVec.shiftRight_add]
    rw [BitVec.getLsbD_ushiftRight]
    exact h _ (by omega)
  unfold rnd8
  have e0 := e 0 (by omega)
  rw [show c >>> 0 = c by simp] at e0
  rw [e0, e 1 (by omega), e 2 (by omega), e 3 (by omega), e 4 (by omega), e 5 (by omega), e 6 (by omega), e 7 (by omega)]
/-- A byte by the table is eight rounds. -/
theorem step_rnd8 (c : BitVec 32) (b : BitVec 8) : step c b = rnd8 (c ^^^ b.setWidth 32) := by
  have hc : c = (c ^^^ (c.setWidth 8).setWidth 32) ^^^ (c.setWidth 8).setWidth 32 := by rw [BitVec.xor_assoc, BitVec.xor_self, BitVec.xor_zero]
  have hi : ∀ i, i < 8 → (c ^^^ (c.setWidth 8).setWidth 32).getLsbD i = false := by
    intro i hi
    rw [BitVec.getLsbD_xor, BitVec.getLsbD_setWidth, BitVec.getLsbD_setWidth]
    simp [hi]
    omega
  have hs : (c ^^^ (c.setWidth 8).setWidth 32) >>> 8 = c >>> 8 := by
    apply BitVec.eq_of_getLsbD_eq
    intro i hi
    rw [BitVec.getLsbD_ushiftRight, BitVec.getLsbD_ushiftRight, BitVec.getLsbD_xor, BitVec.getLsbD_setWidth, BitVec.getLsbD_setWidth]
    have h8 : decide (8 + i < 8) = false := decide_eq_false (by omega)
    rw [h8]
    simp
  have hx : c ^^^ b.setWidth 32 = (c ^^^ (c.setWidth 8).setWidth 32) ^^^ ((c.setWidth 8 ^^^ b).setWidth 32) := by
    rw [BitVec.setWidth_xor, ← BitVec.xor_assoc]
    congr 1
  rw [hx, rnd8_xor, rnd8_high hi, hs]
  rfl
theorem step_inj_reg {c d : BitVec 32} {b : BitVec 8} (h : step c b = step d b) : c = d := by
  rw [step_rnd8, step_rnd8] at h
  have := rnd8_inj h
  have := congrArg (fun v => v ^^^ b.setWidth 32) this
  simpa [BitVec.xor_assoc] using this
theorem step_inj_byte {c : BitVec 32} {a b : BitVec 8} (h : step c a = step c b) : a = b := by
  rw [step_rnd8, step_rnd8] at h
  have h1 := rnd8_inj h
  have h2 : a.setWidth 32 = b.setWidth 32 := by
    have := congrArg (fun v => c ^^^ v) h1
    simpa [← BitVec.xor_assoc] using this
  have h3 := congrArg (fun v => v.setWidth 8) h2
  simpa using h3
theorem run_inj {l : List (BitVec 8)} : ∀ {c d : BitVec 32}, run c l = run d l → c = d := by
  induction l with
  | nil => intro c d h; exact h
  | cons b l ih => intro c d h; exact step_inj_reg (ih h)
/-- One byte that is another one makes another sum. -/
theorem run_changed {c : BitVec 32} {l r : List (BitVec 8)} {a b : BitVec 8} (hab : a ≠ b) : run c (l ++ a :: r) ≠ run c (l ++ b :: r) := by
  intro h
  unfold run at h
  rw [List.foldl_append, List.foldl_append] at h
  have := run_inj (l := r) h
  exact hab (step_inj_byte this)
end Crc
theorem crc_bytes {c d : BitVec 32} (h0 : byteAt c 0 = byteAt d 0) (h1 : byteAt c 1 = byteAt d 1) (h2 : byteAt c 2 = byteAt d 2) (h3 : byteAt c 3 = byteAt d 3) : c = d := by
  have hc : c.toNat < 4294967296 := c.isLt
  have hd : d.toNat < 4294967296 := d.isLt
  have e : ∀ k, byteAt c k = byteAt d k → c.toNat / 2 ^ (8 * k) % 256 = d.toNat / 2 ^ (8 * k) % 256 := by
    intro k hk
    have := congrArg UInt8.toNat hk
    unfold byteAt at this
    rw [UInt8.toNat_ofNat', UInt8.toNat_ofNat'] at this
    exact this
  have e0 := e 0 h0
  have e1 := e 1 h1
  have e2 := e 2 h2
  have e3 := e 3 h3
  simp at e0 e1 e2 e3
  apply BitVec.eq_of_toNat_eq
  omega
theorem crc_changed {a b : List UInt8} {x y : UInt8} (h : x ≠ y) : crcB (a ++ x :: b) ≠ crcB (a ++ y :: b) := by
  intro e
  unfold crcB at e
  have e2 := congrArg (fun v => ~~~ v) e
  simp only [BitVec.not_not, List.map_append, List.map_cons] at e2
  refine Crc.run_changed (c := ~~~ 0#32) (l := a.map UInt8.toBitVec) (r := b.map UInt8.toBitVec) (a := x.toBitVec) (b := y.toBitVec) ?_ e2
  intro hh
  exact h (UInt8.toBitVec_inj.1 hh)
theorem seal_changed (l : List UInt8) (i : Nat) (v : UInt8) (hi : i < (sealB l).length) (hv : (sealB l)[i] ≠ v) : sealB (((sealB l).set i v).take (((sealB l).set i v).length - 4)) ≠ (sealB l).set i v := by
  have hlen : ((sealB l).set i v).length - 4 = l.length := by rw [List.length_set, sealB_len]; omega
  rw [hlen]
  by_cases h : i < l.length
  · have hset : (sealB l).set i v = l.set i v ++ [byteAt (crcB l) 0, byteAt (crcB l) 1, byteAt (crcB l) 2, byteAt (crcB l) 3] := by
      unfold sealB
      rw [List.set_append_left _ _ h]
    have htake : ((sealB l).set i v).take l.length = l.set i v := by
      rw [hset, List.take_append_of_le_length (by rw [List.length_set]; exact Nat.le_refl _), List.take_of_length_le (by rw [List.length_set]; exact Nat.le_refl _)]
    rw [htake, hset]
    unfold sealB
    intro e
    have e2 := List.append_cancel_left e
    simp only [List.cons.injEq, and_true] at e2
    have hc := crc_bytes e2.1 e2.2.1 e2.2.2.1 e2.2.2.2
    have hx : (sealB l)[i] = l[i] := by
      have : (sealB l)[i]? = l[i]? := by unfold sealB; rw [List.getElem?_append_left h]
      rw [List.getElem?_eq_getElem hi, List.getElem?_eq_getElem h] at this
      injection this
    rw [hx] at hv
    have e3 : l = l.take i ++ l[i] :: l.drop (i + 1) := by rw [← List.drop_eq_getElem_cons h, List.take_append_drop]
    have e4 : l.set i v = l.take i ++ v :: l.drop (i + 1) := by rw [List.set_eq_take_append_cons_drop, if_pos h]
    rw [e4] at hc
    have := crc_changed (a := l.take i) (b := l.drop (i + 1)) (x := v) (y := l[i]) (fun h => hv h.symm)
    rw [← e3] at this
    exact this hc
  · have htake : ((sealB l).set i v).take l.length = l := by
      unfold sealB
      rw [List.set_append_right _ _ (by omega), List.take_append_of_le_length (Nat.le_refl _), List.take_of_length_le (Nat.le_refl _)]
    rw [htake]
    intro e
    apply hv
    have := congrArg (fun t => t[i]?) e
    simp only [List.getElem?_set_self hi] at this
    rw [List.getElem?_eq_getElem hi] at this
    injection this
end Go.Proofs.YtdgjcjhicbgfaaaGreat
