/- A packet read. Conditions: it is one that was made here, some noughts behind it. -/
import Derived.Test.YtdgjcjhicbgfaaaGreatCm
set_option linter.unusedVariables false
set_option linter.unusedSimpArgs false
namespace Go.Proofs.YtdgjcjhicbgfaaaGreat
open Go.RowKit Go.Lib
set_option linter.unusedVariables false
set_option linter.unusedSimpArgs false
set_option maxRecDepth 20000

theorem wsum_app : ∀ (a b : List UInt8), a.length % 2 = 0 → wsum (a ++ b) = wsum a + wsum b
  | [], b, _ => by simp [wsum]
  | [x], b, h => by simp at h
  | x :: y :: a, b, h => by
    have := wsum_app a b (by simp at h; omega)
    simp only [List.cons_append, wsum, this]
    omega
theorem wsum_be16 (n : Nat) (h : n < 65536) : wsum (be16 n) = n := by
  simp [wsum, be16]
  omega
/-- With its own sum the sum of all is nought. -/
theorem ones_sealed (a b : List UInt8) (ha : a.length % 2 = 0) (hp : 0 < wsum a) : onesB (a ++ be16 (onesB (a ++ [0, 0] ++ b)) ++ b) = 0 := by
  have h1 : wsum (a ++ [0, 0] ++ b) = wsum a + wsum b := by
    rw [List.append_assoc, wsum_app _ _ ha]; simp [wsum]
  have h2 : onesB (a ++ [0, 0] ++ b) < 65536 := by unfold onesB; omega
  have h3 : wsum (a ++ be16 (onesB (a ++ [0, 0] ++ b)) ++ b) = wsum a + onesB (a ++ [0, 0] ++ b) + wsum b := by
    rw [List.append_assoc, wsum_app _ _ ha, wsum_app _ _ (by simp [be16]), wsum_be16 _ h2]; omega
  unfold onesB at h3 ⊢
  rw [h3, h1]
  unfold fold16
  have hS : wsum a + wsum b ≠ 0 := by omega
  simp only [if_neg hS]
  split <;> omega
/-- A packet, by what it begins with. -/
theorem ipB_parts (id : Nat) (d : List UInt8) : ipB id d = (ipHead id d.length).1 ++ (be16 (onesB ((ipHead id d.length).1 ++ [0, 0] ++ (srcB ++ dstB))) ++ ((srcB ++ dstB) ++ d)) := by
  unfold ipB ipHead
  simp only [List.append_assoc]
theorem head_len (id n : Nat) : (ipHead id n).1.length = 10 := by simp [ipHead, be16_len]
theorem head_pos (id n : Nat) : 0 < wsum (ipHead id n).1 := by
  unfold ipHead
  simp only [List.cons_append, wsum]
  have : (0x45 : UInt8).toNat = 69 := rfl
  omega
theorem take_pre {a b : List UInt8} {s : ByteArray} {k n : Nat} (hs : s.data.toList = a ++ b) (hk : a.length = k) : s.extract 0 k = ⟨a.toArray⟩ := by
  have : s = ⟨(a ++ b).toArray⟩ := by apply ByteArray.ext; apply Array.ext'; rw [hs]
  rw [this, ← hk]; exact extract_pre a b
theorem take_mid {a b c : List UInt8} {s : ByteArray} {k m : Nat} (hs : s.data.toList = a ++ (b ++ c)) (hk : a.length = k) (hm : k + b.length = m) : s.extract k m = ⟨b.toArray⟩ := by
  apply ByteArray.ext
  apply Array.ext'
  rw [ByteArray.data_extract, Array.toList_extract, hs]
  subst hk hm
  simp [List.extract_eq_take_drop]
/-- A packet's first bytes. -/
structure Ip (id : Nat) (d s : ByteArray) (k n : Nat) : Prop where
  all : s.data.toList = (ipHead id n).1 ++ (be16 (onesB ((ipHead id n).1 ++ [0, 0] ++ (srcB ++ dstB))) ++ ((srcB ++ dstB) ++ (d.data.toList ++ List.replicate k 0)))
  dz : d.size = n
  dn : n ≤ 108
  hk : k ≤ 45
  hid : id ≤ 65535
theorem Ip.of {id k : Nat} {d s : ByteArray} (h : s.data.toList = ipB id d.data.toList ++ List.replicate k 0) (hd : d.size ≤ 108) (hid : id ≤ 65535) (hk : k ≤ 45) : Ip id d s k d.size :=
  ⟨by rw [h, ipB_parts, str_len]; simp only [List.append_assoc], rfl, hd, hk, hid⟩
theorem Ip.size {id k n : Nat} {d s : ByteArray} (h : Ip id d s k n) : s.size = 20 + n + k := by
  rw [← str_len, h.all]
  simp only [List.length_append, head_len, be16_len, srcB_len, dstB_len, str_len, List.length_replicate, h.dz]
  omega
theorem Ip.x10 {id k n : Nat} {d s : ByteArray} (h : Ip id d s k n) : s.extract 0 10 = ⟨(ipHead id n).1.toArray⟩ := take_pre (n := 0) h.all (head_len _ _)
theorem Ip.x12 {id k n : Nat} {d s : ByteArray} (h : Ip id d s k n) : s.extract 12 20 = ⟨(srcB ++ dstB).toArray⟩ := by
  refine take_mid (a := (ipHead id n).1 ++ be16 (onesB ((ipHead id n).1 ++ [0, 0] ++ (srcB ++ dstB)))) (c := d.data.toList ++ List.replicate k 0) ?_ ?_ ?_
  · rw [h.all]; simp only [List.append_assoc]
  · rw [List.length_append, head_len, be16_len]
  · rw [List.length_append, srcB_len, dstB_len]
theorem Ip.x20 {id k n : Nat} {d s : ByteArray} (h : Ip id d s k n) : s.extract 0 20 = ⟨((ipHead id n).1 ++ be16 (onesB ((ipHead id n).1 ++ [0, 0] ++ (srcB ++ dstB))) ++ (srcB ++ dstB)).toArray⟩ := by
  refine take_pre (n := 0) (b := d.data.toList ++ List.replicate k 0) ?_ ?_
  · rw [h.all]; simp only [List.append_assoc]
  · simp only [List.length_append, head_len, be16_len, srcB_len, dstB_len]
theorem Ip.xd {id k n : Nat} {d s : ByteArray} (h : Ip id d s k n) : s.extract 20 (20 + n) = d := by
  have := take_mid (s := s) (k := 20) (m := 20 + n) (a := (ipHead id n).1 ++ (be16 (onesB ((ipHead id n).1 ++ [0, 0] ++ (srcB ++ dstB))) ++ (srcB ++ dstB))) (b := d.data.toList) (c := List.replicate k 0) ?_ ?_ ?_
  · rw [this]
  · rw [h.all]; simp only [List.append_assoc]
  · simp only [List.length_append, head_len, be16_len, srcB_len, dstB_len]
  · rw [str_len, h.dz]
theorem Ip.xs {id k n : Nat} {d s : ByteArray} (h : Ip id d s k n) : s.extract 10 s.size = ⟨(be16 (onesB ((ipHead id n).1 ++ [0, 0] ++ (srcB ++ dstB))) ++ ((srcB ++ dstB) ++ (d.data.toList ++ List.replicate k 0))).toArray⟩ := by
  have := take_mid (s := s) (k := 10) (m := s.size) (a := (ipHead id n).1) (b := be16 (onesB ((ipHead id n).1 ++ [0, 0] ++ (srcB ++ dstB))) ++ ((srcB ++ dstB) ++ (d.data.toList ++ List.replicate k 0))) (c := []) ?_ (head_len _ _) ?_
  · exact this
  · rw [h.all, List.append_nil]
  · rw [h.size]
    simp only [List.length_append, be16_len, srcB_len, dstB_len, str_len, List.length_replicate, h.dz]
    omega
set_option maxHeartbeats 2000000 in
theorem twice_calls (id k n : Nat) (d s : ByteArray) (w : World) (h : Ip id d s k n) : Calls Tryz.prog 164 #[.string s] w fun e w' => e = .returned (.bool false) ∧ Below w.heap.size w w' := by
  obtain ⟨x, hx⟩ : ∃ x, x = onesB ((ipHead id n).1 ++ [0, 0] ++ (srcB ++ dstB)) := ⟨_, rfl⟩
  obtain ⟨r, hr⟩ : ∃ r, r = (srcB ++ dstB) ++ (d.data.toList ++ List.replicate k 0) := ⟨_, rfl⟩
  have hx6 : x < 65536 := by rw [hx]; unfold onesB; omega
  have hrl : r.length ≤ 4000 := by
    rw [hr]; simp only [List.length_append, srcB_len, dstB_len, str_len, List.length_replicate, h.dz]; have := h.dn; have := h.hk; omega
  obtain ⟨m, hm⟩ : ∃ m, m = 20 + n + k := ⟨_, rfl⟩
  have hz : s.size = m := by rw [hm]; exact h.size
  have m20 : 20 ≤ m := by omega
  have m20i : (20 : Int) ≤ (m : Int) := by omega
  have m10i : (10 : Int) ≤ (m : Int) := by omega
  have m12i : (12 : Int) ≤ (m : Int) := by omega
  have hm5 : m ≤ 300 := by have := h.dn; have := h.hk; omega
  have hdn := h.dn
  have hkn := h.hk
  have xs := h.xs
  rw [← hx, ← hr] at xs
  have x10 := h.x10
  have x12 := h.x12
  obtain ⟨u, hu⟩ : ∃ u, u = (⟨(ipHead id n).1.toArray⟩ : ByteArray) := ⟨_, rfl⟩
  obtain ⟨v, hv⟩ : ∃ v, v = (⟨(srcB ++ dstB).toArray⟩ : ByteArray) := ⟨_, rfl⟩
  have hus : u.size = 10 := by rw [hu, mk_size, head_len]
  have hvs : v.size = 8 := by rw [hv, mk_size (srcB ++ dstB), List.length_append, srcB_len, dstB_len]
  rw [← hu] at x10
  rw [← hv] at x12
  have HO : Aside (onesB (u ++ (⟨#[0, 0]⟩ : ByteArray) ++ v).data.toList = x) := ⟨by rw [hu, hv, hx]; simp⟩
  have HOZ : Aside ((u ++ (⟨#[0, 0]⟩ : ByteArray) ++ v).size ≤ 5000) := ⟨by
    rw [ByteArray.size_append, ByteArray.size_append, hus, hvs]; decide⟩
  have HR := Aside.mk hrl
  have HD : Aside ((s.extract 10 m).data.toList = be16 x ++ r) := ⟨by rw [← hz, xs]⟩
  clear hx hr hu hv hrl h hm
  go_enter Tryz.func164, Tryz.ntmps164
  go_wp2_with (first | (go_at_call 147; refine (read_calls _ _).mono ?_; rintro e w1 ⟨rfl, h1, h2⟩; rw [HD.out] at h1; have H1 := Aside.mk h1; have H2 := Aside.mk h2; clear h1 h2) | (go_at_call 149; refine (r16_be _ x r _ H1.out hx6 HR.out).mono ?_; rintro e w2 ⟨rfl, h3, h4⟩; replace H2 := Aside.mk ((Upon.of_below (S := (· = w.heap.size)) H2.out).trans h4); clear h3 h4))
  refine region_cls (by kernel_rfl) (by kernel_rfl) ?_
  repeat (go_big_quiet_step ((go_at_call 109; exact Cls.calls_same _ ((ones_calls _ _ HOZ.out).mono fun e w' he => ⟨by rw [he.1, HO.out], he.2⟩))))
  refine wpQuiet_nil ?_
  intro _ hw'
  obtain ⟨y, hw''⟩ := hw'
  subst hw''
  go_wp2
  go_ret
  refine ⟨rfl, ?_⟩
  exact ((H2.out.trans (Upon.of_below y.below)).below (Nat.le_refl _) (fun i hi => by omega))
end Go.Proofs.YtdgjcjhicbgfaaaGreat
