/- A machine over values of which some are not known: its values, its memory, the steps that write nothing, each shown to be the program's. Conditions: those of each lemma, none else. -/
import Derived.Below
import Derived.Orders
import Derived.KernelRfl
import Derived.Laws.Sem
import Derived.Laws.Cells
import Derived.Laws.Strings
import Derived.Lib.Strings
import Derived.Laws.BytesArg
import Derived.Laws.Slices
set_option linter.unusedVariables false
set_option linter.unusedSimpArgs false

/- A machine over values of which some are not known: its values, its memory, and how these stand to the model's. Conditions: none; plain definitions and lemmas. -/
section
namespace Go.Proofs.YtdgjcjhicbgfaaaGreat
open Go.RowKit

/-! ### A tree by numbers -/
inductive Tr (α : Type) where
  | nil
  | node (v : Option α) (l r : Tr α)
  deriving Inhabited
def Tr.get {α : Type} : Tr α → Nat → Option α
  | .nil, _ => none
  | .node v l r, n => match n with
    | 0 => v
    | m + 1 => match Nat.beq (m % 2) 0 with
      | true => l.get (m / 2)
      | false => r.get (m / 2)
def Tr.val {α : Type} : Tr α → Option α
  | .nil => none
  | .node v _ _ => v
def Tr.lo {α : Type} : Tr α → Tr α
  | .nil => .nil
  | .node _ l _ => l
def Tr.hi {α : Type} : Tr α → Tr α
  | .nil => .nil
  | .node _ _ r => r
def Tr.setF {α : Type} : Nat → Tr α → Nat → α → Tr α
  | 0, t, _, _ => t
  | f + 1, t, n, a => match n with
    | 0 => .node (some a) t.lo t.hi
    | m + 1 => match Nat.beq (m % 2) 0 with
      | true => .node t.val (setF f t.lo (m / 2) a) t.hi
      | false => .node t.val t.lo (setF f t.hi (m / 2) a)
def Tr.set {α : Type} (t : Tr α) (n : Nat) (a : α) : Tr α := setF (n + 1) t n a
theorem Tr.get_nil {α : Type} (n : Nat) : (Tr.nil : Tr α).get n = none := rfl
theorem Tr.get_zero {α : Type} (t : Tr α) : t.get 0 = t.val := by cases t <;> rfl
theorem Tr.get_even {α : Type} (t : Tr α) (m : Nat) (h : Nat.beq (m % 2) 0 = true) : t.get (m + 1) = t.lo.get (m / 2) := by
  cases t <;> simp only [get, lo, h]
theorem Tr.get_odd {α : Type} (t : Tr α) (m : Nat) (h : Nat.beq (m % 2) 0 = false) : t.get (m + 1) = t.hi.get (m / 2) := by
  cases t <;> simp only [get, hi, h]
theorem bit_even {m : Nat} (h : Nat.beq (m % 2) 0 = true) : m % 2 = 0 := Nat.beq_eq ▸ h
theorem bit_odd {m : Nat} (h : Nat.beq (m % 2) 0 = false) : m % 2 = 1 := by
  rcases Nat.mod_two_eq_zero_or_one m with e | e
  · rw [e] at h; simp at h
  · exact e
theorem Tr.get_setF {α : Type} (a : α) : ∀ (f : Nat) (t : Tr α) (n j : Nat), n < f → (setF f t n a).get j = if j = n then some a else t.get j := by
  intro f
  induction f with
  | zero => intro t n j h; omega
  | succ f ih =>
    intro t n j h
    cases n with
    | zero =>
      cases j with
      | zero => simp [setF, get_zero, val]
      | succ j =>
        cases hj : Nat.beq (j % 2) 0
        · rw [get_odd _ _ hj, get_odd _ _ hj]; simp [setF, hi]
        · rw [get_even _ _ hj, get_even _ _ hj]; simp [setF, lo]
    | succ m =>
      cases j with
      | zero => cases hm : Nat.beq (m % 2) 0 <;> simp [setF, hm, get_zero, val]
      | succ j =>
        cases hm : Nat.beq (m % 2) 0 <;> cases hj : Nat.beq (j % 2) 0
        · rw [get_odd _ _ hj, get_odd _ _ hj]
          simp only [setF, hm, hi]
          rw [ih _ _ _ (by omega)]
          have := bit_odd hm; have := bit_odd hj
          by_cases e : j = m
          · subst e; simp
          · rw [if_neg (by omega), if_neg (by omega)]
        · rw [get_even _ _ hj, get_even _ _ hj]
          simp only [setF, hm, lo]
          have := bit_odd hm; have := bit_even hj
          rw [if_neg (by omega)]
        · rw [get_odd _ _ hj, get_odd _ _ hj]
          simp only [setF, hm, hi]
          have := bit_even hm; have := bit_odd hj
          rw [if_neg (by omega)]
        · rw [get_even _ _ hj, get_even _ _ hj]
          simp only [setF, hm, lo]
          rw [ih _ _ _ (by omega)]
          have := bit_even hm; have := bit_even hj
          by_cases e : j = m
          · subst e; simp
          · rw [if_neg (by omega), if_neg (by omega)]
theorem Tr.get_set {α : Type} (t : Tr α) (n : Nat) (a : α) (j : Nat) : (t.set n a).get j = if j = n then some a else t.get j := get_setF a _ t n j (by omega)

/-! ### Values -/
inductive AV where
  | bool (b : Bool)
  | int (k : IntKind) (n : Int)
  | sym (b : Nat) (c : Int)
  | str (s : List Nat)
  | txt (b : Nat)
  | ptr (b off : Nat)
  | nptr
  | sl (b off len cap : Nat)
  | slu (b off old len skip : Nat)
  | nsl
  | map (b : Nat)
  | nmap
  | fn (f : Fn) (first captured : List AV)
  | nfn
  | iface (t : TypeId) (v : AV)
  | nif
  | agg (cs : List AV)
  | tup (vs : List AV)
  deriving Inhabited

/-- What a number of the machine's memory stands for. -/
inductive ET where
  | loc (blk sh cap : Nat)
  | num (z : Int)
  | txt (s : ByteArray)
abbrev Nu := Nat → Option ET
def Nu.le (ν ν' : Nu) : Prop := ∀ b e, ν b = some e → ν' b = some e
theorem Nu.le.refl (ν : Nu) : Nu.le ν ν := fun _ _ h => h
theorem Nu.le.trans {a b c : Nu} (h : Nu.le a b) (k : Nu.le b c) : Nu.le a c := fun x e hx => k x e (h x e hx)
def Nu.put (ν : Nu) (b : Nat) (e : ET) : Nu := fun x => if x = b then some e else ν x
theorem Nu.put_self (ν : Nu) (b : Nat) (e : ET) : ν.put b e b = some e := by simp [Nu.put]
theorem Nu.put_ne (ν : Nu) {b x : Nat} (e : ET) (h : x ≠ b) : ν.put b e x = ν x := by simp [Nu.put, h]
theorem Nu.le_put {ν : Nu} {b : Nat} (e : ET) (h : ν b = none) : Nu.le ν (ν.put b e) := by
  intro x d hx
  rw [Nu.put_ne]
  · exact hx
  · rintro rfl; rw [h] at hx; cases hx

def bytesOf (s : List Nat) : ByteArray := ⟨(s.map UInt8.ofNat).toArray⟩

mutual
def AV.conc (ν : Nu) : AV → Option Value
  | .bool b => some (.bool b)
  | .int k n => some (.int k n)
  | .sym b c => match ν b with | some (.num z) => some (.int .i64 (z + c)) | _ => none
  | .str s => some (.string (bytesOf s))
  | .txt b => match ν b with | some (.txt s) => some (.string s) | _ => none
  | .ptr b o => match ν b with | some (.loc c sh _) => some (.pointer (some ⟨c, sh + o, none⟩)) | _ => none
  | .nptr => some (.pointer none)
  | .sl b o n c => match ν b with | some (.loc k sh _) => some (.slice (some ⟨k, sh + o, none⟩) n c) | _ => none
  | .slu b o o' n d => match ν b with | some (.loc k sh cap) => if n + d ≤ cap then some (.slice (some ⟨k, sh + (if d < cap then o else o'), none⟩) n (cap - d)) else none | _ => none
  | .nsl => some (.slice none 0 0)
  | .map b => match ν b with | some (.loc k _ _) => some (.map (some k)) | _ => none
  | .nmap => some (.map none)
  | .fn f a c => match AV.concL ν a, AV.concL ν c with | some a, some c => some (.func f a.toArray c.toArray) | _, _ => none
  | .nfn => some .nilFunc
  | .iface t v => match AV.conc ν v with | some v => some (.iface t v) | _ => none
  | .nif => some .nilIface
  | .agg cs => match AV.concL ν cs with | some l => some (.agg l.toArray) | _ => none
  | .tup vs => match AV.concL ν vs with | some l => some (.tuple l.toArray) | _ => none
def AV.concL (ν : Nu) : List AV → Option (List Value)
  | [] => some []
  | v :: vs => match AV.conc ν v, AV.concL ν vs with | some v, some vs => some (v :: vs) | _, _ => none
end

mutual
theorem AV.conc_mono {ν ν' : Nu} (h : Nu.le ν ν') : ∀ (v : AV) (c : Value), v.conc ν = some c → v.conc ν' = some c
  | .bool _, _, e | .int .., _, e | .str _, _, e | .nptr, _, e | .nsl, _, e | .nmap, _, e | .nfn, _, e | .nif, _, e => e
  | .sym b _, c, e | .txt b, c, e | .ptr b _, c, e | .sl b _ _ _, c, e | .slu b _ _ _ _, c, e | .map b, c, e => by
    unfold AV.conc at e ⊢
    cases hb : ν b with
    | none => rw [hb] at e; cases e
    | some x => rw [hb] at e; rw [h _ _ hb]; exact e
  | .fn f a d, c, e => by
    unfold AV.conc at e ⊢
    cases ha : AV.concL ν a with
    | none => rw [ha] at e; cases e
    | some x =>
      cases hd : AV.concL ν d with
      | none => rw [ha, hd] at e; cases e
      | some y => rw [ha, hd] at e; rw [AV.concL_mono h a x ha, AV.concL_mono h d y hd]; exact e
  | .iface t v, c, e => by
    unfold AV.conc at e ⊢
    cases hv : AV.conc ν v with
    | none => rw [hv] at e; cases e
    | some x => rw [hv] at e; rw [AV.conc_mono h v x hv]; exact e
  | .agg cs, c, e | .tup cs, c, e => by
    unfold AV.conc at e ⊢
    cases hv : AV.concL ν cs with
    | none => rw [hv] at e; cases e
    | some x => rw [hv] at e; rw [AV.concL_mono h cs x hv]; exact e
theorem AV.concL_mono {ν ν' : Nu} (h : Nu.le ν ν') : ∀ (v : List AV) (c : List Value), AV.concL ν v = some c → AV.concL ν' v = some c
  | [], _, e => e
  | v :: vs, c, e => by
    unfold AV.concL at e ⊢
    cases hv : AV.conc ν v with
    | none => rw [hv] at e; cases e
    | some x =>
      cases hd : AV.concL ν vs with
      | none => rw [hv, hd] at e; cases e
      | some y => rw [hv, hd] at e; rw [AV.conc_mono h v x hv, AV.concL_mono h vs y hd]; exact e
end

/-- A row of values stands for a row of values. -/
theorem concL_cons {ν : Nu} {v : AV} {vs : List AV} {c : List Value} (h : AV.concL ν (v :: vs) = some c) : ∃ x y, v.conc ν = some x ∧ AV.concL ν vs = some y ∧ c = x :: y := by
  unfold AV.concL at h
  cases hv : AV.conc ν v with
  | none => rw [hv] at h; cases h
  | some x =>
    cases hd : AV.concL ν vs with
    | none => rw [hv, hd] at h; cases h
    | some y => rw [hv, hd] at h; exact ⟨x, y, rfl, rfl, (Option.some.inj h).symm⟩
theorem concL_mk {ν : Nu} {v : AV} {vs : List AV} {x : Value} {y : List Value} (h : v.conc ν = some x) (k : AV.concL ν vs = some y) : AV.concL ν (v :: vs) = some (x :: y) := by
  unfold AV.concL
  rw [h, k]
theorem concL_nil (ν : Nu) : AV.concL ν [] = some [] := by unfold AV.concL; rfl
theorem concL_len {ν : Nu} : ∀ {vs : List AV} {c : List Value}, AV.concL ν vs = some c → c.length = vs.length
  | [], c, h => by rw [concL_nil] at h; cases h; rfl
  | v :: vs, c, h => by
    obtain ⟨x, y, _, hy, rfl⟩ := concL_cons h
    simp [concL_len hy]
theorem concL_get {ν : Nu} : ∀ {vs : List AV} {c : List Value}, AV.concL ν vs = some c → ∀ (i : Nat) (v : AV), vs[i]? = some v → ∃ x, c[i]? = some x ∧ v.conc ν = some x
  | [], c, h, i, v, hv => by simp at hv
  | u :: vs, c, h, i, v, hv => by
    obtain ⟨x, y, hx, hy, rfl⟩ := concL_cons h
    cases i with
    | zero => simp at hv; subst hv; exact ⟨x, by simp, hx⟩
    | succ i => simp at hv; simpa using concL_get hy i v hv
theorem concL_of {ν : Nu} : ∀ {vs : List AV} {c : List Value}, vs.length = c.length → (∀ (i : Nat) (v : AV) (x : Value), vs[i]? = some v → c[i]? = some x → v.conc ν = some x) → AV.concL ν vs = some c
  | [], [], _, _ => concL_nil ν
  | v :: vs, x :: c, hl, h => concL_mk (h 0 v x rfl rfl) (concL_of (by simpa using hl) (fun i v x hv hx => h (i + 1) v x (by simpa using hv) (by simpa using hx)))
theorem concL_append {ν : Nu} : ∀ {vs us : List AV} {c d : List Value}, AV.concL ν vs = some c → AV.concL ν us = some d → AV.concL ν (vs ++ us) = some (c ++ d)
  | [], us, c, d, h, k => by rw [concL_nil] at h; cases h; exact k
  | v :: vs, us, c, d, h, k => by
    obtain ⟨x, y, hx, hy, rfl⟩ := concL_cons h
    exact concL_mk hx (concL_append hy k)
theorem concL_append_inv {ν : Nu} : ∀ {vs us : List AV} {c : List Value}, AV.concL ν (vs ++ us) = some c → ∃ a b, AV.concL ν vs = some a ∧ AV.concL ν us = some b ∧ c = a ++ b
  | [], us, c, h => ⟨[], c, concL_nil ν, h, rfl⟩
  | v :: vs, us, c, h => by
    obtain ⟨x, y, hx, hy, rfl⟩ := concL_cons h
    obtain ⟨a, b, ha, hb, rfl⟩ := concL_append_inv hy
    exact ⟨x :: a, b, concL_mk hx ha, hb, rfl⟩
theorem conc_agg {ν : Nu} {cs : List AV} {c : Value} (h : (AV.agg cs).conc ν = some c) : ∃ l, AV.concL ν cs = some l ∧ c = .agg l.toArray := by
  unfold AV.conc at h
  cases hv : AV.concL ν cs with
  | none => rw [hv] at h; cases h
  | some x => rw [hv] at h; exact ⟨x, rfl, (Option.some.inj h).symm⟩
theorem conc_agg_mk {ν : Nu} {cs : List AV} {l : List Value} (h : AV.concL ν cs = some l) : (AV.agg cs).conc ν = some (.agg l.toArray) := by
  unfold AV.conc; rw [h]
theorem conc_tup {ν : Nu} {cs : List AV} {c : Value} (h : (AV.tup cs).conc ν = some c) : ∃ l, AV.concL ν cs = some l ∧ c = .tuple l.toArray := by
  unfold AV.conc at h
  cases hv : AV.concL ν cs with
  | none => rw [hv] at h; cases h
  | some x => rw [hv] at h; exact ⟨x, rfl, (Option.some.inj h).symm⟩
theorem conc_tup_mk {ν : Nu} {cs : List AV} {l : List Value} (h : AV.concL ν cs = some l) : (AV.tup cs).conc ν = some (.tuple l.toArray) := by
  unfold AV.conc; rw [h]
theorem conc_iface {ν : Nu} {t : TypeId} {v : AV} {c : Value} (h : (AV.iface t v).conc ν = some c) : ∃ x, v.conc ν = some x ∧ c = .iface t x := by
  unfold AV.conc at h
  cases hv : AV.conc ν v with
  | none => rw [hv] at h; cases h
  | some x => rw [hv] at h; exact ⟨x, rfl, (Option.some.inj h).symm⟩
theorem conc_ptr {ν : Nu} {b o : Nat} {c : Value} (h : (AV.ptr b o).conc ν = some c) : ∃ k s n, ν b = some (.loc k s n) ∧ c = .pointer (some ⟨k, s + o, none⟩) := by
  unfold AV.conc at h
  split at h
  · rename_i k s n hb; exact ⟨k, s, n, hb, (Option.some.inj h).symm⟩
  · cases h
theorem conc_sl {ν : Nu} {b o n d : Nat} {c : Value} (h : (AV.sl b o n d).conc ν = some c) : ∃ k s m, ν b = some (.loc k s m) ∧ c = .slice (some ⟨k, s + o, none⟩) n d := by
  unfold AV.conc at h
  split at h
  · rename_i k s n hb; exact ⟨k, s, n, hb, (Option.some.inj h).symm⟩
  · cases h
theorem conc_slu {ν : Nu} {b o o' n d : Nat} {c : Value} (h : (AV.slu b o o' n d).conc ν = some c) : ∃ k s m, ν b = some (.loc k s m) ∧ n + d ≤ m ∧ c = .slice (some ⟨k, s + (if d < m then o else o'), none⟩) n (m - d) := by
  unfold AV.conc at h
  split at h
  · rename_i k s m hb
    by_cases hc : n + d ≤ m
    · rw [if_pos hc] at h; exact ⟨k, s, m, hb, hc, (Option.some.inj h).symm⟩
    · rw [if_neg hc] at h; cases h
  · cases h
theorem conc_slu_mk {ν : Nu} {b o o' n d k s m : Nat} (h : ν b = some (.loc k s m)) (hc : n + d ≤ m) : (AV.slu b o o' n d).conc ν = some (.slice (some ⟨k, s + (if d < m then o else o'), none⟩) n (m - d)) := by
  unfold AV.conc
  rw [h]
  simp only
  rw [if_pos hc]
theorem conc_map {ν : Nu} {b : Nat} {c : Value} (h : (AV.map b).conc ν = some c) : ∃ k s m, ν b = some (.loc k s m) ∧ c = .map (some k) := by
  unfold AV.conc at h
  split at h
  · rename_i k s n hb; exact ⟨k, s, n, hb, (Option.some.inj h).symm⟩
  · cases h
theorem conc_sym {ν : Nu} {b : Nat} {d : Int} {c : Value} (h : (AV.sym b d).conc ν = some c) : ∃ z, ν b = some (.num z) ∧ c = .int .i64 (z + d) := by
  unfold AV.conc at h
  split at h
  · rename_i z hb; exact ⟨z, hb, (Option.some.inj h).symm⟩
  · cases h
theorem conc_txt {ν : Nu} {b : Nat} {c : Value} (h : (AV.txt b).conc ν = some c) : ∃ z, ν b = some (.txt z) ∧ c = .string z := by
  unfold AV.conc at h
  split at h
  · rename_i z hb; exact ⟨z, hb, (Option.some.inj h).symm⟩
  · cases h
theorem conc_fn {ν : Nu} {f : Fn} {a d : List AV} {c : Value} (h : (AV.fn f a d).conc ν = some c) : ∃ x y, AV.concL ν a = some x ∧ AV.concL ν d = some y ∧ c = .func f x.toArray y.toArray := by
  unfold AV.conc at h
  cases ha : AV.concL ν a with
  | none => rw [ha] at h; cases h
  | some x =>
    cases hd : AV.concL ν d with
    | none => rw [ha, hd] at h; cases h
    | some y => rw [ha, hd] at h; exact ⟨x, y, rfl, rfl, (Option.some.inj h).symm⟩

/-- A value of the model, of which all is known. -/
def absV1 : Value → Option AV
  | .bool b => some (.bool b)
  | .int k n => some (.int k n)
  | .string s => some (.str (s.data.toList.map UInt8.toNat))
  | .pointer none => some .nptr
  | .slice none 0 0 => some .nsl
  | .map none => some .nmap
  | .nilFunc => some .nfn
  | .nilIface => some .nif
  | _ => none
def absL : List Value → Option (List AV)
  | [] => some []
  | v :: vs => match absV1 v, absL vs with | some a, some l => some (a :: l) | _, _ => none
def absV : Value → Option AV
  | .agg cs => match absL cs.toList with | some l => some (.agg l) | none => none
  | .tuple cs => match absL cs.toList with | some l => some (.tup l) | none => none
  | v => absV1 v
theorem bytesOf_toList (s : ByteArray) : bytesOf (s.data.toList.map UInt8.toNat) = s := by
  unfold bytesOf
  simp [Function.comp_def]
theorem absV1_conc {ν : Nu} {v : Value} {a : AV} (h : absV1 v = some a) : a.conc ν = some v := by
  unfold absV1 at h
  split at h <;> first | (cases h; unfold AV.conc; first | rfl | rw [bytesOf_toList]) | cases h
theorem absL_conc {ν : Nu} : ∀ {vs : List Value} {l : List AV}, absL vs = some l → AV.concL ν l = some vs
  | [], l, h => by cases h; exact concL_nil ν
  | v :: vs, l, h => by
    unfold absL at h
    cases hv : absV1 v with
    | none => rw [hv] at h; cases h
    | some x =>
      cases hd : absL vs with
      | none => rw [hv, hd] at h; cases h
      | some y => rw [hv, hd] at h; cases h; exact concL_mk (absV1_conc hv) (absL_conc hd)
theorem absV_conc {ν : Nu} {v : Value} {a : AV} (h : absV v = some a) : a.conc ν = some v := by
  unfold absV at h
  split at h
  · rename_i cs
    cases hd : absL cs.toList with
    | none => rw [hd] at h; cases h
    | some y => rw [hd] at h; cases h; rw [conc_agg_mk (absL_conc hd)]
  · rename_i cs
    cases hd : absL cs.toList with
    | none => rw [hd] at h; cases h
    | some y => rw [hd] at h; cases h; rw [conc_tup_mk (absL_conc hd)]
  · exact absV1_conc h
end Go.Proofs.YtdgjcjhicbgfaaaGreat
end

/- What the codecs write, plainly: the sum of sixteen bits, datagrams, packets, frames. Conditions: none; plain definitions. -/
section
namespace Go.Proofs.YtdgjcjhicbgfaaaGreat
namespace Crc
def poly : BitVec 32 := 0xedb88320#32
def rnd (c : BitVec 32) : BitVec 32 := (c >>> 1) ^^^ (if c.getLsbD 0 then poly else 0#32)
def rnd8 (c : BitVec 32) : BitVec 32 := rnd (rnd (rnd (rnd (rnd (rnd (rnd (rnd c)))))))
def tab (i : BitVec 8) : BitVec 32 := rnd8 (i.setWidth 32)
def step (c : BitVec 32) (b : BitVec 8) : BitVec 32 := (c >>> 8) ^^^ tab (c.setWidth 8 ^^^ b)
def run (c : BitVec 32) (l : List (BitVec 8)) : BitVec 32 := l.foldl step c
end Crc
/-- The check sum. -/
def crcB (l : List UInt8) : BitVec 32 := ~~~ (Crc.run (~~~ 0#32) (l.map UInt8.toBitVec))
def byteAt (c : BitVec 32) (n : Nat) : UInt8 := UInt8.ofNat (c.toNat / 2 ^ (8 * n))
/-- A text with its check sum behind. -/
def sealB (l : List UInt8) : List UInt8 := l ++ [byteAt (crcB l) 0, byteAt (crcB l) 1, byteAt (crcB l) 2, byteAt (crcB l) 3]
/-- A number in two bytes. -/
def be16 (n : Nat) : List UInt8 := [UInt8.ofNat (n / 256), UInt8.ofNat n]
/-- The sum of numbers of sixteen bits. -/
def wsum : List UInt8 → Nat
  | a :: b :: r => a.toNat * 256 + b.toNat + wsum r
  | [a] => a.toNat * 256
  | [] => 0
/-- What runs over taken in again. -/
def fold16 (n : Nat) : Nat := if n = 0 then 0 else (n - 1) % 65535 + 1
def onesB (l : List UInt8) : Nat := 65535 - fold16 (wsum l)
def srcB : List UInt8 := [10, 0, 0, 0]
def dstB : List UInt8 := [224, 224, 0, 10]
def udpSum (s : List UInt8) : Nat :=
  let n := onesB (srcB ++ dstB ++ be16 17 ++ be16 s.length ++ s)
  if n = 0 then 65535 else n
/-- A datagram of the link 10, from and to the number 5. -/
def udpB (d : List UInt8) : List UInt8 :=
  let h := be16 5 ++ be16 5 ++ be16 (8 + d.length)
  h ++ be16 (udpSum (h ++ [0, 0] ++ d)) ++ d
/-- The head of a packet, but for its sum. -/
def ipHead (id : Nat) (n : Nat) : List UInt8 × List UInt8 := ([0x45, 0] ++ be16 (20 + n) ++ be16 id ++ [0, 0] ++ [1, 17], srcB ++ dstB)
def ipB (id : Nat) (d : List UInt8) : List UInt8 :=
  let h := ipHead id d.length
  h.1 ++ be16 (onesB (h.1 ++ [0, 0] ++ h.2)) ++ (h.2 ++ d)
/-- A frame of the link 10, on a network. -/
def ethB (net seq : Nat) (d : List UInt8) : List UInt8 :=
  sealB ([3, 0, 0, 0, 0, 10] ++ [2, 0, 0, 0, 0, (if net = 0 then 0x20 else 0x40)] ++ [8, 0] ++ d ++ List.replicate (45 - d.length) 0 ++ [UInt8.ofNat seq])
theorem sealB_len (l : List UInt8) : (sealB l).length = l.length + 4 := by simp [sealB]
theorem udpB_len (d : List UInt8) : (udpB d).length = 8 + d.length := by simp [udpB, be16]; omega
theorem ipB_len (id : Nat) (d : List UInt8) : (ipB id d).length = 20 + d.length := by simp [ipB, ipHead, be16, srcB, dstB]; omega
theorem ethB_len (net seq : Nat) (d : List UInt8) : (ethB net seq d).length = 19 + max d.length 45 := by
  unfold ethB
  rw [sealB_len]
  simp
  omega
end Go.Proofs.YtdgjcjhicbgfaaaGreat
end

/- The machine's memory, and how it stands to the model's world. Conditions: none; plain definitions and lemmas. -/
section
namespace Go.Proofs.YtdgjcjhicbgfaaaGreat
open Go.RowKit

/-- How a string that is not known was made. 'bad': a frame of which a byte was changed. -/
inductive Prov where
  | any
  | udp (d : AV)
  | ip (id : Nat) (d : AV)
  | eth (net seq : Nat) (d : AV)
  | bad
  deriving Inhabited
def ProvIs (ν : Nu) : Prov → ByteArray → Prop
  | .any, _ => True
  | .udp d, s => ∃ t, d.conc ν = some (.string t) ∧ t.size ≤ 100 ∧ s.data.toList = udpB t.data.toList
  | .ip id d, s => ∃ t k, d.conc ν = some (.string t) ∧ t.size ≤ 108 ∧ id ≤ 65535 ∧ k ≤ 45 ∧ s.data.toList = ipB id t.data.toList ++ List.replicate k 0
  | .eth net seq d, s => ∃ t, d.conc ν = some (.string t) ∧ t.size ≤ 128 ∧ net ≤ 1 ∧ seq ≤ 255 ∧ s.data.toList = ethB net seq t.data.toList
  | .bad, s => 64 ≤ s.size ∧ s.size ≤ 1518 ∧ sealB (s.data.toList.take (s.size - 4)) ≠ s.data.toList
theorem ProvIs.mono {ν ν' : Nu} (h : Nu.le ν ν') : ∀ {pv : Prov} {s : ByteArray}, ProvIs ν pv s → ProvIs ν' pv s
  | .any, _, _ => trivial
  | .udp d, s, ⟨t, h1, h2⟩ => ⟨t, AV.conc_mono h _ _ h1, h2⟩
  | .ip id d, s, ⟨t, k, h1, h2⟩ => ⟨t, k, AV.conc_mono h _ _ h1, h2⟩
  | .eth net seq d, s, ⟨t, h1, h2⟩ => ⟨t, AV.conc_mono h _ _ h1, h2⟩
  | .bad, s, h => h
inductive AO where
  | dead
  | cells (c : List AV) (room : Option Nat)
  | map (es : List (AV × AV × Nat)) (clock : Nat)
  | num (lo hi : Int)
  | txt (len : AV) (pv : Prov)
  deriving Inhabited
def AO.placed : AO → Bool
  | .cells .. | .map .. => true
  | _ => false
structure St where
  heap : Tr AO
  next : Nat
  deriving Inhabited

/-- A row of cells in the world. -/
structure Row (ν : Nu) (w : World) (c : List AV) (room : Option Nat) (k sh cap : Nat) : Prop where
  mk :: (out : ∃ cs elem fr, w.heap[k]? = some (.cells cs elem fr) ∧ sh + c.length ≤ cs.size ∧
    (∀ i v, c[i]? = some v → ∃ u, cs[sh + i]? = some u ∧ v.conc ν = some u) ∧
    (∀ i, sh ≤ i → i < cs.size → ¬ (fr.1 ≤ i ∧ i < fr.2)) ∧
    (∀ sz, room = some sz → sh + cap * sz ≤ cs.size ∧ c.length ≤ cap * sz))
/-- An entry of a map. -/
structure Ent (ν : Nu) (x : AV × AV × Nat) (e : MapEntry) : Prop where
  key : x.1.conc ν = some e.key
  val : x.2.1.conc ν = some e.val
  born : x.2.2 = e.born
def Ents (ν : Nu) : List (AV × AV × Nat) → List MapEntry → Prop
  | [], [] => True
  | x :: xs, e :: es => Ent ν x e ∧ Ents ν xs es
  | _, _ => False
structure MapRow (ν : Nu) (w : World) (es : List (AV × AV × Nat)) (clock k : Nat) : Prop where
  mk :: (out : ∃ el, w.heap[k]? = some (.map el clock) ∧ Ents ν es el.toList)
inductive Obj.Is (ν : Nu) (w : World) : AO → ET → Prop where
  | dead (e : ET) : Obj.Is ν w .dead e
  | cells (c : List AV) (room : Option Nat) (k sh cap : Nat) (h : Row ν w c room k sh cap) : Obj.Is ν w (.cells c room) (.loc k sh cap)
  | map (es : List (AV × AV × Nat)) (clock k sh cap : Nat) (h : MapRow ν w es clock k) : Obj.Is ν w (.map es clock) (.loc k sh cap)
  | num (lo hi z : Int) (h : lo ≤ z ∧ z ≤ hi) : Obj.Is ν w (.num lo hi) (.num z)
  | txt (n : AV) (pv : Prov) (s : ByteArray) (h : n.conc ν = some (.int .i64 s.size)) (g : ProvIs ν pv s) : Obj.Is ν w (.txt n pv) (.txt s)

theorem Ents.mono {ν ν' : Nu} (h : Nu.le ν ν') : ∀ {a : List (AV × AV × Nat)} {b : List MapEntry}, Ents ν a b → Ents ν' a b
  | [], [], _ => trivial
  | _ :: _, _ :: _, ⟨x, r⟩ => ⟨⟨AV.conc_mono h _ _ x.key, AV.conc_mono h _ _ x.val, x.born⟩, Ents.mono h r⟩
  | [], _ :: _, k => k.elim
  | _ :: _, [], k => k.elim
theorem Ents.len {ν : Nu} : ∀ {a : List (AV × AV × Nat)} {b : List MapEntry}, Ents ν a b → a.length = b.length
  | [], [], _ => rfl
  | _ :: _, _ :: _, ⟨_, r⟩ => by simp [Ents.len r]
  | [], _ :: _, k => k.elim
  | _ :: _, [], k => k.elim
theorem Row.mono {ν ν' : Nu} (h : Nu.le ν ν') {w w' : World} {c : List AV} {room : Option Nat} {k sh cap : Nat} (hw : w'.heap[k]? = w.heap[k]?) (r : Row ν w c room k sh cap) : Row ν' w' c room k sh cap := by
  obtain ⟨cs, el, fr, h1, h2, h3, h4, h5⟩ := r.out
  exact ⟨cs, el, fr, hw.trans h1, h2, fun i v hv => let ⟨u, a, b⟩ := h3 i v hv; ⟨u, a, AV.conc_mono h _ _ b⟩, h4, h5⟩
theorem Row.lt {ν : Nu} {w : World} {c : List AV} {room : Option Nat} {k sh cap : Nat} (r : Row ν w c room k sh cap) : k < w.heap.size := by
  obtain ⟨cs, el, fr, h1, _⟩ := r.out
  exact (Array.getElem?_eq_some_iff.1 h1).1
theorem MapRow.mono {ν ν' : Nu} (h : Nu.le ν ν') {w w' : World} {es : List (AV × AV × Nat)} {clock k : Nat} (hw : w'.heap[k]? = w.heap[k]?) (r : MapRow ν w es clock k) : MapRow ν' w' es clock k := by
  obtain ⟨el, h1, h2⟩ := r.out
  exact ⟨el, hw.trans h1, h2.mono h⟩
theorem MapRow.lt {ν : Nu} {w : World} {es : List (AV × AV × Nat)} {clock k : Nat} (r : MapRow ν w es clock k) : k < w.heap.size := by
  obtain ⟨el, h1, _⟩ := r.out
  exact (Array.getElem?_eq_some_iff.1 h1).1
theorem Obj.Is.mono {ν ν' : Nu} (h : Nu.le ν ν') {w w' : World} {o : AO} {e : ET} (hw : ∀ k s c, e = .loc k s c → o.placed = true → w'.heap[k]? = w.heap[k]?) (r : Obj.Is ν w o e) : Obj.Is ν' w' o e := by
  cases r with
  | dead => exact .dead _
  | cells c room k sh cap r => exact .cells _ _ _ _ _ (r.mono h (hw _ _ _ rfl rfl))
  | map es clock k sh cap r => exact .map _ _ _ _ _ (r.mono h (hw _ _ _ rfl rfl))
  | num lo hi z r => exact .num _ _ _ r
  | txt n pv s r g => exact .txt _ _ _ (AV.conc_mono h _ _ r) (g.mono h)

/-- The block k is one that the machine's memory holds. -/
def Live (ν : Nu) (σ : St) (k : Nat) : Prop := ∃ b o s c, σ.heap.get b = some o ∧ o.placed = true ∧ ν b = some (.loc k s c)

structure Rel (base : Nat) (ν : Nu) (σ : St) (w : World) : Prop where
  obj : ∀ b o, σ.heap.get b = some o → ∃ e, ν b = some e ∧ Obj.Is ν w o e
  inj : ∀ b b' o o' k s s' c c', σ.heap.get b = some o → σ.heap.get b' = some o' → o.placed = true → o'.placed = true → ν b = some (.loc k s c) → ν b' = some (.loc k s' c') → b = b'
  own : ∀ k, Live ν σ k → base ≤ k
  lt : ∀ b o, σ.heap.get b = some o → b < σ.next
  size : base ≤ w.heap.size
theorem Rel.live_lt {base : Nat} {ν : Nu} {σ : St} {w : World} (r : Rel base ν σ w) {k : Nat} (h : Live ν σ k) : k < w.heap.size := by
  obtain ⟨b, o, s, c, hb, hp, hν⟩ := h
  obtain ⟨e, he, hi⟩ := r.obj b o hb
  rw [hν] at he; cases he
  cases hi with
  | dead => cases hp
  | cells c room k sh cap r => exact r.lt
  | map es clock k sh cap r => exact r.lt

/-- The world grew, and nothing that was there has turned. -/
structure Grow (w w' : World) : Prop where
  os : w'.os = w.os
  tape : w'.tape = w.tape
  output : w'.output = w.output
  size : w.heap.size ≤ w'.heap.size
  keep : ∀ k, k < w.heap.size → w'.heap[k]? = w.heap[k]?
theorem Grow.refl (w : World) : Grow w w := ⟨rfl, rfl, rfl, Nat.le_refl _, fun _ _ => rfl⟩
theorem Grow.trans {a b c : World} (h : Grow a b) (k : Grow b c) : Grow a c := ⟨k.os.trans h.os, k.tape.trans h.tape, k.output.trans h.output, Nat.le_trans h.size k.size, fun i hi => (k.keep i (Nat.lt_of_lt_of_le hi h.size)).trans (h.keep i hi)⟩
theorem Grow.drew (w : World) : Grow w { w with drawn := w.drawn + 1 } := ⟨rfl, rfl, rfl, Nat.le_refl _, fun _ _ => rfl⟩
theorem Grow.push (w : World) (o : Obj) : Grow w { w with heap := w.heap.push o } := ⟨rfl, rfl, rfl, by simp, fun k hk => by show (w.heap.push o)[k]? = _; rw [Array.getElem?_push, if_neg (by omega)]⟩

/-- What a piece of the run has turned. -/
structure Run (ν : Nu) (σ : St) (w : World) (ν' : Nu) (σ' : St) (w' : World) : Prop where
  le : Nu.le ν ν'
  out : ∀ b, (b < σ.next ∨ σ'.next ≤ b) → ν' b = ν b
  nx : σ.next ≤ σ'.next
  os : w'.os = w.os
  tape : w'.tape = w.tape
  output : w'.output = w.output
  size : w.heap.size ≤ w'.heap.size
  keep : ∀ k, k < w.heap.size → ¬ Live ν σ k → w'.heap[k]? = w.heap[k]?
  fresh : ∀ k, Live ν' σ' k → Live ν σ k ∨ w.heap.size ≤ k
  dom : ∀ b, σ'.heap.get b = none → σ.heap.get b = none
theorem Run.refl (ν : Nu) (σ : St) (w : World) : Run ν σ w ν σ w := ⟨.refl _, fun _ _ => rfl, Nat.le_refl _, rfl, rfl, rfl, Nat.le_refl _, fun _ _ _ => rfl, fun _ h => .inl h, fun _ h => h⟩
theorem Run.trans {ν ν₁ ν₂ : Nu} {σ σ₁ σ₂ : St} {w w₁ w₂ : World} (h : Run ν σ w ν₁ σ₁ w₁) (k : Run ν₁ σ₁ w₁ ν₂ σ₂ w₂) : Run ν σ w ν₂ σ₂ w₂ where
  le := h.le.trans k.le
  out b hb := by
    have := h.nx; have := k.nx
    rw [k.out b (by omega), h.out b (by omega)]
  nx := Nat.le_trans h.nx k.nx
  os := k.os.trans h.os
  tape := k.tape.trans h.tape
  output := k.output.trans h.output
  size := Nat.le_trans h.size k.size
  keep i hi hl := by
    have hs := h.size
    rw [k.keep i (by omega) (fun hl' => by rcases h.fresh i hl' with a | a; exact hl a; omega), h.keep i hi hl]
  fresh i hi := by
    have hs := h.size
    rcases k.fresh i hi with a | a
    · exact h.fresh i a
    · exact .inr (by omega)
  dom b hb := h.dom b (k.dom b hb)
/-- The numbers that a piece of the run takes are free. -/
def Free (ν : Nu) (σ σ' : St) : Prop := ∀ b, σ.next ≤ b → b < σ'.next → ν b = none
theorem Free.left {ν : Nu} {σ σ₁ σ₂ : St} (h : Free ν σ σ₂) (k : σ₁.next ≤ σ₂.next) : Free ν σ σ₁ := fun b x y => h b x (by omega)
theorem Free.right {ν ν₁ : Nu} {σ σ₁ σ₂ : St} {w w₁ : World} (h : Free ν σ σ₂) (r : Run ν σ w ν₁ σ₁ w₁) : Free ν₁ σ₁ σ₂ := fun b x y => by
  rw [r.out b (.inr x)]
  exact h b (Nat.le_trans r.nx x) y
theorem Free.refl (ν : Nu) (σ : St) : Free ν σ σ := fun b x y => by omega
/-- A drawn number turns nothing. -/
theorem Rel.grow {base : Nat} {ν : Nu} {σ : St} {w w' : World} (r : Rel base ν σ w) (g : Grow w w') : Rel base ν σ w' where
  obj b o hb := by
    obtain ⟨e, he, hi⟩ := r.obj b o hb
    refine ⟨e, he, hi.mono (.refl _) fun k s c hk hp => g.keep k ?_⟩
    subst hk
    exact r.live_lt ⟨b, o, s, c, hb, hp, he⟩
  inj := r.inj
  own := r.own
  lt := r.lt
  size := Nat.le_trans r.size g.size
theorem Run.grow {base : Nat} {ν : Nu} {σ : St} {w w' : World} (_ : Rel base ν σ w) (g : Grow w w') : Run ν σ w ν σ w' := ⟨.refl _, fun _ _ => rfl, Nat.le_refl _, g.os, g.tape, g.output, g.size, fun k hk _ => g.keep k hk, fun _ h => .inl h, fun _ h => h⟩

/-- The world turned beside the machine's memory. -/
theorem Rel.beside {base : Nat} {ν : Nu} {σ : St} {w w' : World} (r : Rel base ν σ w) (hs : w.heap.size ≤ w'.heap.size) (hk : ∀ k, Live ν σ k → w'.heap[k]? = w.heap[k]?) : Rel base ν σ w' where
  obj b o hb := by
    obtain ⟨e, he, hi⟩ := r.obj b o hb
    refine ⟨e, he, hi.mono (.refl _) fun k s c hk' hp => hk k ?_⟩
    subst hk'
    exact ⟨b, o, s, c, hb, hp, he⟩
  inj := r.inj
  own := r.own
  lt := r.lt
  size := Nat.le_trans r.size hs

/-- Something new. -/
def St.add (σ : St) (o : AO) : St := ⟨σ.heap.set σ.next o, σ.next + 1⟩
theorem St.add_get (σ : St) (o : AO) (b : Nat) : (σ.add o).heap.get b = if b = σ.next then some o else σ.heap.get b := Tr.get_set _ _ _ _
theorem St.add_none (σ : St) (o : AO) (b : Nat) (h : (σ.add o).heap.get b = none) : σ.heap.get b = none := by
  rw [St.add_get] at h
  split at h
  · cases h
  · exact h
/-- What is new stands for e: Rel and Run of it. -/
theorem Rel.add {base : Nat} {ν : Nu} {σ : St} {w w' : World} (r : Rel base ν σ w) (g : Grow w w') (o : AO) (e : ET) (hf : ν σ.next = none) (hi : Obj.Is ν w' o e)
    (hk : ∀ k s c, e = .loc k s c → o.placed = true → w.heap.size ≤ k) : Rel base (ν.put σ.next e) (σ.add o) w' ∧ Run ν σ w (ν.put σ.next e) (σ.add o) w' := by
  have hle : Nu.le ν (ν.put σ.next e) := Nu.le_put e hf
  have hlive : ∀ k, Live (ν.put σ.next e) (σ.add o) k → Live ν σ k ∨ w.heap.size ≤ k := by
    rintro k ⟨b, o', s, c, hb, hp, hν⟩
    rw [St.add_get] at hb
    by_cases he : b = σ.next
    · subst he
      rw [if_pos rfl] at hb; cases hb
      rw [Nu.put_self] at hν; cases hν
      exact .inr (hk k s c rfl hp)
    · rw [if_neg he] at hb
      rw [Nu.put_ne _ _ he] at hν
      exact .inl ⟨b, o', s, c, hb, hp, hν⟩
  refine ⟨⟨?_, ?_, ?_, ?_, ?_⟩, ⟨hle, ?_, Nat.le_succ _, g.os, g.tape, g.output, g.size, fun k hk' _ => g.keep k hk', hlive, St.add_none σ o⟩⟩
  · intro b o' hb
    rw [St.add_get] at hb
    by_cases he : b = σ.next
    · subst he
      rw [if_pos rfl] at hb; cases hb
      exact ⟨e, Nu.put_self _ _ _, hi.mono hle (fun _ _ _ _ _ => rfl)⟩
    · rw [if_neg he] at hb
      obtain ⟨e', he', hi'⟩ := (r.grow g).obj b o' hb
      exact ⟨e', by rw [Nu.put_ne _ _ he]; exact he', hi'.mono hle (fun _ _ _ _ _ => rfl)⟩
  · intro b b' o1 o2 k s s' c c' h1 h2 p1 p2 n1 n2
    rw [St.add_get] at h1 h2
    by_cases e1 : b = σ.next
    · by_cases e2 : b' = σ.next
      · rw [e1, e2]
      · rw [if_neg e2] at h2
        rw [Nu.put_ne _ _ e2] at n2
        have hl := r.live_lt ⟨b', o2, s', c', h2, p2, n2⟩
        subst e1
        rw [if_pos rfl] at h1; cases h1
        rw [Nu.put_self] at n1; cases n1
        have := hk k s c rfl p1
        omega
    · rw [if_neg e1] at h1
      rw [Nu.put_ne _ _ e1] at n1
      by_cases e2 : b' = σ.next
      · have hl := r.live_lt ⟨b, o1, s, c, h1, p1, n1⟩
        subst e2
        rw [if_pos rfl] at h2; cases h2
        rw [Nu.put_self] at n2; cases n2
        have := hk k s' c' rfl p2
        omega
      · rw [if_neg e2] at h2
        rw [Nu.put_ne _ _ e2] at n2
        exact r.inj b b' o1 o2 k s s' c c' h1 h2 p1 p2 n1 n2
  · intro k hl
    rcases hlive k hl with a | a
    · exact r.own k a
    · exact Nat.le_trans r.size a
  · intro b o' hb
    rw [St.add_get] at hb
    show b < σ.next + 1
    by_cases he : b = σ.next
    · omega
    · rw [if_neg he] at hb
      have := r.lt b o' hb
      omega
  · exact Nat.le_trans r.size g.size
  · intro b hb
    exact Nu.put_ne _ _ (by
      rcases hb with h | h
      · omega
      · have : (σ.add o).next = σ.next + 1 := rfl
        omega)
end Go.Proofs.YtdgjcjhicbgfaaaGreat
end

/- The machine's steps that write nothing: each does what the model's does. Conditions: none but those that the lemmas name. -/
section
set_option linter.unusedSimpArgs false
set_option linter.unusedVariables false
namespace Go.Proofs.YtdgjcjhicbgfaaaGreat
open Go.RowKit

/-! ### A block that turns -/
theorem Live.set {ν : Nu} {σ : St} {b : Nat} {o o' : AO} {n : Nat} (hb : σ.heap.get b = some o) (hp : o.placed = true) {k : Nat} (h : Live ν ⟨σ.heap.set b o', n⟩ k) : Live ν σ k := by
  obtain ⟨b', o1, s, c, h1, h2, h3⟩ := h
  simp only [Tr.get_set] at h1
  by_cases he : b' = b
  · subst he; exact ⟨b', o, s, c, hb, hp, h3⟩
  · rw [if_neg he] at h1; exact ⟨b', o1, s, c, h1, h2, h3⟩
theorem Rel.turn {base : Nat} {ν : Nu} {σ : St} {w w' : World} (r : Rel base ν σ w) {b k s c : Nat} {o o' : AO} (hb : σ.heap.get b = some o) (hp : o.placed = true) (hν : ν b = some (.loc k s c))
    (hs : w.heap.size ≤ w'.heap.size) (ho : ∀ j, j ≠ k → w'.heap[j]? = w.heap[j]?) (hi : Obj.Is ν w' o' (.loc k s c)) : Rel base ν ⟨σ.heap.set b o', σ.next⟩ w' where
  obj b' o1 h1 := by
    simp only [Tr.get_set] at h1
    by_cases he : b' = b
    · subst he; rw [if_pos rfl] at h1; cases h1; exact ⟨_, hν, hi⟩
    · rw [if_neg he] at h1
      obtain ⟨e, h2, h3⟩ := r.obj b' o1 h1
      refine ⟨e, h2, h3.mono (.refl _) fun k' s' c' hk' hp' => ho k' ?_⟩
      rintro rfl
      subst hk'
      exact he (r.inj b' b o1 o k' s' s c' c h1 hb hp' hp h2 hν)
  inj b1 b2 o1 o2 k s s' c c' h1 h2 p1 p2 n1 n2 := by
    simp only [Tr.get_set] at h1 h2
    by_cases e1 : b1 = b
    · by_cases e2 : b2 = b
      · rw [e1, e2]
      · rw [if_neg e2] at h2
        subst e1
        exact r.inj _ _ _ _ _ _ _ _ _ hb h2 hp p2 n1 n2
    · rw [if_neg e1] at h1
      by_cases e2 : b2 = b
      · subst e2
        exact r.inj _ _ _ _ _ _ _ _ _ h1 hb p1 hp n1 n2
      · rw [if_neg e2] at h2
        exact r.inj _ _ _ _ _ _ _ _ _ h1 h2 p1 p2 n1 n2
  own k hl := r.own k (hl.set hb hp)
  lt b' o1 h1 := by
    simp only [Tr.get_set] at h1
    by_cases he : b' = b
    · subst he; exact r.lt _ _ hb
    · rw [if_neg he] at h1; exact r.lt _ _ h1
  size := Nat.le_trans r.size hs
theorem Run.turn {ν : Nu} {σ : St} {w w' : World} {b k s c : Nat} {o o' : AO} (hb : σ.heap.get b = some o) (hp : o.placed = true) (hν : ν b = some (.loc k s c))
    (os : w'.os = w.os) (tape : w'.tape = w.tape) (output : w'.output = w.output) (hs : w.heap.size ≤ w'.heap.size) (ho : ∀ j, j ≠ k → w'.heap[j]? = w.heap[j]?) : Run ν σ w ν ⟨σ.heap.set b o', σ.next⟩ w' :=
  ⟨.refl _, fun _ _ => rfl, Nat.le_refl _, os, tape, output, hs, fun j _ hj => ho j (by rintro rfl; exact hj ⟨b, o, s, c, hb, hp, hν⟩), fun _ h => .inl (h.set hb hp), fun x hx => by
    simp only [Tr.get_set] at hx
    split at hx
    · cases hx
    · exact hx⟩

/-! ### The table of types -/
def TOk (P : Program) (T : Tr TypeInfo) : Prop := ∀ t i, T.get t = some i → P.info? t = some i
def undT (T : Tr TypeInfo) (t : TypeId) : Option TypeDesc :=
  match T.get t with
  | some i => match i.desc with
    | .named _ u => match T.get u with | some j => some j.desc | none => none
    | d => some d
  | none => none
def sizeT (T : Tr TypeInfo) (t : TypeId) : Option Nat := match T.get t with | some i => some i.size | none => none
def bytesT (T : Tr TypeInfo) (t : TypeId) : Option Nat := match T.get t with | some i => some i.bytes | none => none
def zeroT (T : Tr TypeInfo) (t : TypeId) : Option Value := match T.get t with | some i => i.zero | none => none
def aggT (T : Tr TypeInfo) (t : TypeId) : Option Bool := match undT T t with | some (.struct _) => some true | some (.array _ _) => some true | some _ => some false | none => none
section
variable {P : Program} {T : Tr TypeInfo} (hT : TOk P T) {t : TypeId} (w : World)
include hT
theorem und_ok {d : TypeDesc} (h : undT T t = some d) : P.underlying t = some d := by
  unfold undT at h
  cases hg : T.get t with
  | none => rw [hg] at h; cases h
  | some i =>
    rw [hg] at h
    have hi := hT t i hg
    unfold Program.underlying
    rw [hi]
    obtain ⟨desc, str, size, bytes, hpt, al, fal, zero, cmp, ms⟩ := i
    simp only at h
    cases desc with
    | named nm u =>
      simp only at h ⊢
      cases hu : T.get u with
      | none => rw [hu] at h; cases h
      | some j => rw [hu] at h; rw [hT u j hu]; exact h
    | _ => exact h
theorem run_und {d : TypeDesc} (h : undT T t = some d) : (underlying t).run P w = .ok d w := by
  simp [underlying, und_ok hT h]
theorem run_info {i : TypeInfo} (h : T.get t = some i) : (typeInfo t).run P w = .ok i w := by
  simp [typeInfo, hT t i h]
theorem run_size {n : Nat} (h : sizeT T t = some n) : (sizeOf t).run P w = .ok n w := by
  unfold sizeT at h
  cases hg : T.get t with
  | none => rw [hg] at h; cases h
  | some i => rw [hg] at h; cases h; simp [sizeOf, run_info hT w hg]
theorem run_zero {z : Value} (h : zeroT T t = some z) : (zeroValue t).run P w = .ok z w := by
  unfold zeroT at h
  cases hg : T.get t with
  | none => rw [hg] at h; cases h
  | some i => rw [hg] at h; simp only at h; simp [zeroValue, run_info hT w hg, h]
theorem run_agg {b : Bool} (h : aggT T t = some b) : (isAgg t).run P w = .ok b w := by
  unfold aggT at h
  cases hg : undT T t with
  | none => rw [hg] at h; cases h
  | some d => rw [hg] at h; cases d <;> simp at h <;> subst h <;> simp [isAgg, run_und hT w hg]
end

/-! ### Cells -/
theorem Row.cell {ν : Nu} {w : World} {c : List AV} {room : Option Nat} {k sh cap i : Nat} {v : AV} (r : Row ν w c room k sh cap) (h : c[i]? = some v) : ∃ u, w.cell? ⟨k, sh + i, none⟩ = some u ∧ v.conc ν = some u := by
  obtain ⟨cs, el, fr, h1, h2, h3, h4, h5⟩ := r.out
  obtain ⟨u, a, b⟩ := h3 i v h
  exact ⟨u, by simp [World.cell?, h1, a], b⟩
theorem Row.melt {ν : Nu} {w : World} {c : List AV} {room : Option Nat} {k sh cap i : Nat} (r : Row ν w c room k sh cap) (h : i < c.length) : w.frozen? ⟨k, sh + i, none⟩ = false := by
  obtain ⟨cs, el, fr, h1, h2, h3, h4, h5⟩ := r.out
  have := h4 (sh + i) (by omega) (by omega)
  simp only [World.frozen?, h1]
  simpa using this
theorem Rel.row {base : Nat} {ν : Nu} {σ : St} {w : World} (r : Rel base ν σ w) {b : Nat} {c : List AV} {room : Option Nat} (hb : σ.heap.get b = some (.cells c room)) {k s n : Nat} (hν : ν b = some (.loc k s n)) : Row ν w c room k s n := by
  obtain ⟨e, he, hi⟩ := r.obj b _ hb
  rw [hν] at he; cases he
  cases hi with
  | cells _ _ _ _ _ h => exact h
theorem Rel.mrow {base : Nat} {ν : Nu} {σ : St} {w : World} (r : Rel base ν σ w) {b : Nat} {es : List (AV × AV × Nat)} {clock : Nat} (hb : σ.heap.get b = some (.map es clock)) {k s n : Nat} (hν : ν b = some (.loc k s n)) : MapRow ν w es clock k := by
  obtain ⟨e, he, hi⟩ := r.obj b _ hb
  rw [hν] at he; cases he
  cases hi with
  | map _ _ _ _ _ h => exact h
/-- So many cells from one on. -/
def cut (c : List AV) (o n : Nat) : Option (List AV) := match Nat.ble (o + n) c.length with | true => some ((c.drop o).take n) | false => none
theorem cut_some {c l : List AV} {o n : Nat} (h : cut c o n = some l) : o + n ≤ c.length ∧ l = (c.drop o).take n ∧ l.length = n ∧ ∀ i, i < n → l[i]? = c[o + i]? := by
  unfold cut at h
  split at h
  · rename_i hb
    cases h
    have := Nat.le_of_ble_eq_true hb
    exact ⟨this, rfl, by simp; omega, fun i hi => by simp [List.getElem?_take, hi]⟩
  · cases h
theorem Row.cells {ν : Nu} {w : World} {c l : List AV} {room : Option Nat} {k sh cap o n : Nat} (r : Row ν w c room k sh cap) (h : cut c o n = some l) :
    ∃ vs, AV.concL ν l = some vs ∧ vs.length = n ∧ ∀ j v, vs[j]? = some v → w.cell? ⟨k, sh + o + j, none⟩ = some v := by
  obtain ⟨hle, rfl, hlen, hget⟩ := cut_some h
  have : ∀ (m : Nat), m ≤ n → ∃ vs, AV.concL ν ((c.drop o).take m) = some vs ∧ vs.length = m ∧ ∀ j v, vs[j]? = some v → w.cell? ⟨k, sh + o + j, none⟩ = some v := by
    intro m
    induction m with
    | zero => intro _; exact ⟨[], by simp [concL_nil], rfl, fun j v hj => by simp at hj⟩
    | succ m ih =>
      intro hm
      obtain ⟨vs, h1, h2, h3⟩ := ih (by omega)
      have hlt : o + m < c.length := by omega
      obtain ⟨u, hu, hc⟩ := r.cell (List.getElem?_eq_getElem hlt)
      refine ⟨vs ++ [u], ?_, by simp [h2], ?_⟩
      · rw [List.take_succ_eq_append_getElem (by simp; omega)]
        refine concL_append h1 (concL_mk ?_ (concL_nil ν))
        simpa using hc
      · intro j v hj
        by_cases hjm : j < m
        · rw [List.getElem?_append_left (by omega)] at hj; exact h3 j v hj
        · rw [List.getElem?_append_right (by omega)] at hj
          have : j = m := by
            by_cases e : j - vs.length = 0
            · omega
            · rw [List.getElem?_eq_none (by simp; omega)] at hj; cases hj
          subst this
          simp [h2] at hj
          subst hj
          rw [Nat.add_assoc]; exact hu
  exact this n (Nat.le_refl _)

theorem addr_add (k o n : Nat) : (⟨k, o, none⟩ : Addr).add n = ⟨k, o + n, none⟩ := by
  unfold Addr.add
  split
  · rename_i h; simp [h]
  · rfl
theorem run_load1 {P : Program} {w : World} {a : Addr} {u : Value} (h : w.cell? a = some u) : (load a).run P w = .ok u w := by simp [h]
theorem run_cells {P : Program} {w : World} {k o n : Nat} {vs : List Value} (hl : vs.length = n) (h : ∀ j v, vs[j]? = some v → w.cell? ⟨k, o + j, none⟩ = some v) : (loadCells ⟨k, o, none⟩ n).run P w = .ok vs.toArray w := by
  subst hl
  exact run_loadCells_list w _ vs (fun j v hj => by rw [addr_add]; exact h j v hj)
end Go.Proofs.YtdgjcjhicbgfaaaGreat
end

/- The machine's steps on numbers, strings and the like: each does what the model's does. Conditions: none but those that the lemmas name. -/
section
set_option linter.unusedSimpArgs false
set_option linter.unusedVariables false
namespace Go.Proofs.YtdgjcjhicbgfaaaGreat
open Go.RowKit

abbrev Ev := Operand → Option AV
def EvOk (ν : Nu) (ev : Ev) (ρ : Operand → Value) : Prop := ∀ x a, ev x = some a → a.conc ν = some (ρ x)
inductive NK where
  | ptr
  | sl (n c : Nat)
  | slu (n : Nat)
  | map
  | num
  | txt
def NK.av : NK → Nat → AV
  | .ptr, b => .ptr b 0
  | .sl n c, b => .sl b 0 n c
  | .slu n, b => .slu b 0 0 n 0
  | .map, b => .map b
  | .num, b => .sym b 0
  | .txt, b => .txt b
inductive FR where
  | val (v : AV)
  | new (o : AO) (k : NK)
/-- What a step that writes nothing must do. -/
def FS (P : Program) (ν : Nu) (w : World) (s : Sem Next) : FR → Prop
  | .val v => ∃ c, s.run P w = .ok (.value c) w ∧ v.conc ν = some c
  | .new o k => ∃ c w' e, s.run P w = .ok (.value c) w' ∧ Grow w w' ∧ (∀ b ν', Nu.le ν ν' → ν' b = some e → (k.av b).conc ν' = some c) ∧ Obj.Is ν w' o e ∧ (∀ k s c, e = .loc k s c → o.placed = true → w.heap.size ≤ k)
theorem FS.of {P : Program} {ν : Nu} {w : World} {s : Sem Next} {v : AV} (c : Value) (h : s.run P w = .ok (.value c) w) (k : v.conc ν = some c) : FS P ν w s (.val v) := ⟨c, h, k⟩

/-! ### Numbers -/
def wrapF (k : IntKind) (n : Int) : Int :=
  match k with
  | .i64 => if -9223372036854775808 ≤ n then (if n ≤ 9223372036854775807 then n else k.wrap n) else k.wrap n
  | .u8 => n % 256
  | .u16 => n % 65536
  | .u32 => n % 4294967296
  | .u64 => n % 18446744073709551616
  | _ => k.wrap n
theorem wrapF_eq (k : IntKind) (n : Int) : wrapF k n = k.wrap n := by
  cases k <;> simp only [wrapF]
  case i64 =>
    split
    · split
      · simp only [IntKind.wrap, IntKind.bits, IntKind.signed, Bool.true_and]
        split <;> rename_i h <;> simp at h <;> omega
      · rfl
    · rfl
  all_goals simp [IntKind.wrap, IntKind.bits, IntKind.signed]
def binI (op : BinOp) (k : IntKind) (x y : Int) : Option AV :=
  match op with
  | .add => some (.int k (wrapF k (x + y)))
  | .sub => some (.int k (wrapF k (x - y)))
  | .mul => some (.int k (wrapF k (x * y)))
  | .quo => if y = 0 then none else some (.int k (wrapF k (x.tdiv y)))
  | .rem => if y = 0 then none else some (.int k (x.tmod y))
  | .and => some (.int k (k.wrap (BitVec.ofInt k.bits x &&& BitVec.ofInt k.bits y).toNat))
  | .or => some (.int k (k.wrap (BitVec.ofInt k.bits x ||| BitVec.ofInt k.bits y).toNat))
  | .xor => some (.int k (k.wrap (BitVec.ofInt k.bits x ^^^ BitVec.ofInt k.bits y).toNat))
  | .andNot => some (.int k (k.wrap (BitVec.ofInt k.bits x &&& ~~~BitVec.ofInt k.bits y).toNat))
  | .eql => some (.bool (x == y))
  | .neq => some (.bool (x != y))
  | .lss => some (.bool (x < y))
  | .leq => some (.bool (x ≤ y))
  | .gtr => some (.bool (x > y))
  | .geq => some (.bool (x ≥ y))
  | _ => none
theorem binI_ok {P : Program} {ν : Nu} {w : World} {op : BinOp} {t : TypeId} {k : IntKind} {x y : Int} {v : AV} (h : binI op k x y = some v) : ∃ c, (binOp op t (.int k x) (.int k y)).run P w = .ok c w ∧ v.conc ν = some c := by
  unfold binI at h
  cases op <;> simp only at h
  case quo => split at h <;> cases h; rename_i hy; exact ⟨_, by simp [binOp, Op.intDiv, hy]; rfl, by unfold AV.conc; rw [wrapF_eq]⟩
  case rem => split at h <;> cases h; rename_i hy; exact ⟨_, by simp [binOp, Op.intDiv, hy]; rfl, by unfold AV.conc; rfl⟩
  all_goals first
    | (cases h; done)
    | (cases h; exact ⟨_, by simp [binOp, Op.intArith]; rfl, by unfold AV.conc; rw [wrapF_eq]⟩)
    | (cases h; exact ⟨_, by simp [binOp, Op.intBits]; rfl, by unfold AV.conc; simp⟩)
    | (cases h; exact ⟨_, by simp [binOp, Op.intCmp]; rfl, by unfold AV.conc; simp⟩)
def shI (op : BinOp) (k : IntKind) (x y : Int) : Option AV :=
  if y < 0 then none else
  match op with
  | .shl => some (.int k (wrapF k (x * ((2 ^ (min y.toNat k.bits) : Nat) : Int))))
  | .shr => some (.int k (x.fdiv ((2 ^ (min y.toNat k.bits) : Nat) : Int)))
  | _ => none
theorem shI_ok {P : Program} {ν : Nu} {w : World} {op : BinOp} {t : TypeId} {k k' : IntKind} {x y : Int} {v : AV} (h : shI op k x y = some v) : ∃ c, (binOp op t (.int k x) (.int k' y)).run P w = .ok c w ∧ v.conc ν = some c := by
  unfold shI at h
  split at h
  · cases h
  · rename_i hy
    cases op <;> simp only at h <;> first | (cases h; done) | skip
    · cases h; exact ⟨_, by simp [binOp, Op.shift, hy]; rfl, by unfold AV.conc; rw [wrapF_eq]; simp⟩
    · cases h; exact ⟨_, by simp [binOp, Op.shift, hy]; rfl, by unfold AV.conc; simp⟩

theorem conc_int' {ν : Nu} {k : IntKind} {n : Int} {c : Value} (h : (AV.int k n).conc ν = some c) : c = .int k n := by unfold AV.conc at h; cases h; rfl
/-- The bounds of a number. -/
def bnd (σ : St) : AV → Option (Int × Int)
  | .int .i64 n => some (n, n)
  | .sym b c => match σ.heap.get b with | some (.num lo hi) => some (lo + c, hi + c) | _ => none
  | _ => none
theorem bnd_ok {base : Nat} {ν : Nu} {σ : St} {w : World} (r : Rel base ν σ w) {v : AV} {lo hi : Int} {c : Value} (h : bnd σ v = some (lo, hi)) (hc : v.conc ν = some c) : ∃ z, c = .int .i64 z ∧ lo ≤ z ∧ z ≤ hi := by
  unfold bnd at h
  split at h
  · cases h; unfold AV.conc at hc; cases hc; exact ⟨_, rfl, Int.le_refl _, Int.le_refl _⟩
  · rename_i b d
    split at h
    · rename_i hb
      cases h
      obtain ⟨z, hz, rfl⟩ := conc_sym hc
      obtain ⟨e, he, hi⟩ := r.obj _ _ hb
      rw [hz] at he; cases he
      cases hi with
      | num _ _ _ h => exact ⟨z + d, rfl, by omega, by omega⟩
    · cases h
  · cases h
/-- How far apart two numbers are, known though they aren't. -/
def same : AV → AV → Option Int
  | .sym a c, .sym b d => match Nat.beq a b with | true => some (c - d) | false => none
  | _, _ => none
theorem same_ok {ν : Nu} {a b : AV} {d x y : Int} (h : same a b = some d) (ha : a.conc ν = some (.int .i64 x)) (hb : b.conc ν = some (.int .i64 y)) : x - y = d := by
  unfold same at h
  split at h
  · split at h
    · rename_i hq
      cases h
      have := Nat.eq_of_beq_eq_true hq
      subst this
      obtain ⟨z, hz, e1⟩ := conc_sym ha
      obtain ⟨z', hz', e2⟩ := conc_sym hb
      rw [hz] at hz'; cases hz'
      injection e1 with _ e1
      injection e2 with _ e2
      omega
    · cases h
  · cases h
/-- A comparison by how far apart. -/
def cmpD (op : BinOp) (d : Int) : Option Bool :=
  match op with
  | .lss => some (if d < 0 then true else false)
  | .leq => some (if d ≤ 0 then true else false)
  | .gtr => some (if 0 < d then true else false)
  | .geq => some (if 0 ≤ d then true else false)
  | .eql => some (if d = 0 then true else false)
  | .neq => some (if d = 0 then false else true)
  | _ => none
/-- A comparison of numbers that are not all known. -/
def cmpS (op : BinOp) (a b c d : Int) : Option Bool :=
  match op with
  | .lss => if b < c then some true else if d ≤ a then some false else none
  | .leq => if b ≤ c then some true else if d < a then some false else none
  | .gtr => if d < a then some true else if b ≤ c then some false else none
  | .geq => if d ≤ a then some true else if b < c then some false else none
  | .eql => if b < c then some false else if d < a then some false else if b ≤ c then (if d ≤ a then some true else none) else none
  | .neq => if b < c then some true else if d < a then some true else if b ≤ c then (if d ≤ a then some false else none) else none
  | _ => none
def inI64 (lo hi : Int) : Bool := if -9223372036854775808 ≤ lo then (if hi ≤ 9223372036854775807 then true else false) else false
theorem inI64_ok {lo hi : Int} (h : inI64 lo hi = true) : -9223372036854775808 ≤ lo ∧ hi ≤ 9223372036854775807 := by
  unfold inI64 at h
  split at h
  · split at h
    · exact ⟨‹_›, ‹_›⟩
    · cases h
  · cases h
/-- What numbers that are not all known come to. -/
def arithS (op : BinOp) (x y : AV) (a b c d : Int) : Option FR :=
  match op with
  | .add => match inI64 (a + c) (b + d) with
    | true => match x, y with
      | .sym s e, .int .i64 n => some (.val (.sym s (e + n)))
      | .int .i64 n, .sym s e => some (.val (.sym s (e + n)))
      | _, _ => some (.new (.num (a + c) (b + d)) .num)
    | false => none
  | .sub => match inI64 (a - d) (b - c) with
    | true => match x, y with
      | .sym s e, .int .i64 n => some (.val (.sym s (e - n)))
      | _, _ => some (.new (.num (a - d) (b - c)) .num)
    | false => none
  | .mul => match inI64 0 (b * d) with
    | true => if 0 ≤ a then (if 0 ≤ c then some (.new (.num (a * c) (b * d)) .num) else none) else none
    | false => none
  | _ => none
def binS (σ : St) (op : BinOp) (x y : AV) : Option FR :=
  match bnd σ x, bnd σ y with
  | some (a, b), some (c, d) =>
    match same x y with
    | some e => match cmpD op e with
      | some r => some (.val (.bool r))
      | none => match op, inI64 e e with
        | .sub, true => some (.val (.int .i64 e))
        | _, _ => none
    | none => match cmpS op a b c d with
      | some r => some (.val (.bool r))
      | none => arithS op x y a b c d
  | _, _ => none
theorem wrap_i64 {z : Int} (h : -9223372036854775808 ≤ z) (k : z ≤ 9223372036854775807) : IntKind.i64.wrap z = z := by
  rw [← wrapF_eq]; unfold wrapF; simp only; rw [if_pos h, if_pos k]
theorem FS.num {P : Program} {ν : Nu} {w : World} {s : Sem Value} {lo hi z : Int} (h : s.run P w = .ok (.int .i64 z) w) (l : lo ≤ z) (k : z ≤ hi) : FS P ν w (do pure (.value (← s))) (.new (.num lo hi) .num) :=
  ⟨.int .i64 z, w, .num z, by simp [h], .refl w, fun b ν' _ hb => by unfold NK.av AV.conc; rw [hb]; simp, .num _ _ _ ⟨l, k⟩, by intro k s c hh _; cases hh⟩
theorem binS_ok {P : Program} {base : Nat} {ν : Nu} {σ : St} {w : World} (r : Rel base ν σ w) {op : BinOp} {t : TypeId} {x y : AV} {a b : Value} {f : FR} (h : binS σ op x y = some f) (hx : x.conc ν = some a) (hy : y.conc ν = some b) :
    FS P ν w (do pure (.value (← binOp op t a b))) f := by
  unfold binS at h
  split at h
  · rename_i lo1 hi1 lo2 hi2 h1 h2
    obtain ⟨z1, rfl, p1, p2⟩ := bnd_ok r h1 hx
    obtain ⟨z2, rfl, q1, q2⟩ := bnd_ok r h2 hy
    split at h
    · rename_i e he
      have hd := same_ok he hx hy
      split at h
      · rename_i rb hc
        cases h
        refine FS.of (.bool rb) ?_ (by unfold AV.conc; rfl)
        unfold cmpD at hc
        cases op <;> simp only at hc <;> first | (cases hc; done) | skip
        all_goals
          cases hc
          simp only [binOp, Op.intCmp, Sem.run_bind, Sem.run_pure, Result.andThen_ok, ne_eq, not_true, if_false]
          split <;> (congr 3; simp; omega)
      · split at h <;> first | (cases h; done) | skip
        rename_i hi64 _
        cases h
        have := inI64_ok hi64
        refine FS.of (.int .i64 e) ?_ (by unfold AV.conc; rfl)
        simp [binOp, Op.intArith, hd, wrap_i64 this.1 this.2]
    · split at h
      · rename_i rb hc
        cases h
        refine FS.of (.bool rb) ?_ (by unfold AV.conc; rfl)
        unfold cmpS at hc
        cases op <;> simp only at hc <;> first | (cases hc; done) | skip
        all_goals
          simp [binOp, Op.intCmp]
          repeat' split at hc
          all_goals first
            | (cases hc; done)
            | (cases hc; first | omega | (simp; omega))
      · unfold arithS at h
        have ra : ∀ (lo hi : Int), inI64 lo hi = true → lo ≤ z1 + z2 → z1 + z2 ≤ hi → (binOp .add t (.int .i64 z1) (.int .i64 z2)).run P w = .ok (.int .i64 (z1 + z2)) w := by
          intro lo hi hh g1 g2
          have := inI64_ok hh
          simp [binOp, Op.intArith, wrap_i64 (z := z1 + z2) (by omega) (by omega)]
        have rs : ∀ (lo hi : Int), inI64 lo hi = true → lo ≤ z1 - z2 → z1 - z2 ≤ hi → (binOp .sub t (.int .i64 z1) (.int .i64 z2)).run P w = .ok (.int .i64 (z1 - z2)) w := by
          intro lo hi hh g1 g2
          have := inI64_ok hh
          simp [binOp, Op.intArith, wrap_i64 (z := z1 - z2) (by omega) (by omega)]
        split at h <;> first | (cases h; done) | skip
        · split at h <;> first | (cases h; done) | skip
          rename_i hh
          have hrun := ra _ _ hh (by omega) (by omega)
          split at h
          · cases h
            obtain ⟨z, hz, e1⟩ := conc_sym hx
            obtain e2 := conc_int' hy
            injection e1 with _ e1
            injection e2 with _ e2
            refine FS.of _ (by simp [hrun]; rfl) ?_
            unfold AV.conc; rw [hz]; simp only [Option.some.injEq, Value.int.injEq, true_and]; omega
          · cases h
            obtain ⟨z, hz, e1⟩ := conc_sym hy
            obtain e2 := conc_int' hx
            injection e1 with _ e1
            injection e2 with _ e2
            refine FS.of _ (by simp [hrun]; rfl) ?_
            unfold AV.conc; rw [hz]; simp only [Option.some.injEq, Value.int.injEq, true_and]; omega
          · cases h
            exact FS.num hrun (by omega) (by omega)
        · split at h <;> first | (cases h; done) | skip
          rename_i hh
          have hrun := rs _ _ hh (by omega) (by omega)
          split at h
          · cases h
            obtain ⟨z, hz, e1⟩ := conc_sym hx
            obtain e2 := conc_int' hy
            injection e1 with _ e1
            injection e2 with _ e2
            refine FS.of _ (by simp [hrun]; rfl) ?_
            unfold AV.conc; rw [hz]; simp only [Option.some.injEq, Value.int.injEq, true_and]; omega
          · cases h
            exact FS.num hrun (by omega) (by omega)
        · split at h <;> first | (cases h; done) | skip
          rename_i hh
          split at h <;> first | (cases h; done) | skip
          rename_i g0
          split at h <;> first | (cases h; done) | skip
          rename_i g1
          cases h
          have m1 : lo1 * lo2 ≤ z1 * z2 := Int.mul_le_mul p1 q1 g1 (by omega)
          have m2 : z1 * z2 ≤ hi1 * hi2 := Int.mul_le_mul p2 q2 (by omega) (by omega)
          have m0 : 0 ≤ lo1 * lo2 := Int.mul_nonneg g0 g1
          have := inI64_ok hh
          exact FS.num (by simp [binOp, Op.intArith, wrap_i64 (z := z1 * z2) (by omega) (by omega)]) m1 m2
  · cases h

/-! ### Strings -/
def byteL (s : List Nat) : List Nat := s.map (· % 256)
theorem bytesOf_data (s : List Nat) : (bytesOf s).data.toList = s.map UInt8.ofNat := by simp [bytesOf]
theorem bytesOf_size (s : List Nat) : (bytesOf s).size = s.length := by simp [bytesOf, ByteArray.size]
theorem u8_eq (a b : Nat) : UInt8.ofNat a = UInt8.ofNat b ↔ a % 256 = b % 256 := by
  rw [← UInt8.toNat_inj]; simp
theorem map_u8 : ∀ (a b : List Nat), (a.map UInt8.ofNat == b.map UInt8.ofNat) = (byteL a == byteL b)
  | [], [] => rfl
  | [], _ :: _ => rfl
  | _ :: _, [] => rfl
  | x :: a, y :: b => by
    have ih := map_u8 a b
    simp only [byteL] at ih ⊢
    simp only [List.map_cons, List.cons_beq_cons, ih]
    congr 1
    rw [Bool.eq_iff_iff]
    simp [u8_eq]
/-- Are two lists of numbers the same? -/
def natsEq : List Nat → List Nat → Bool
  | [], [] => true
  | x :: a, y :: b => match Nat.beq (x % 256) (y % 256) with | true => natsEq a b | false => false
  | _, _ => false
theorem natsEq_eq : ∀ (a b : List Nat), natsEq a b = (byteL a == byteL b)
  | [], [] => rfl
  | [], _ :: _ => rfl
  | _ :: _, [] => rfl
  | x :: a, y :: b => by
    have ih := natsEq_eq a b
    simp only [byteL] at ih ⊢
    simp only [natsEq, List.map_cons, List.cons_beq_cons]
    cases h : Nat.beq (x % 256) (y % 256)
    · have : ¬ (x % 256 = y % 256) := fun e => by rw [e] at h; simp at h
      simp [this]
    · have : x % 256 = y % 256 := Nat.eq_of_beq_eq_true h
      simp [this, ih]
def strB (op : BinOp) (a b : List Nat) : Option AV :=
  match op with
  | .add => match Nat.ble (a.length + b.length) 1000000 with | true => some (.str (a ++ b)) | false => none
  | .eql => some (.bool (natsEq a b))
  | .neq => some (.bool (!natsEq a b))
  | _ => none
theorem bytesOf_append (a b : List Nat) : bytesOf (a ++ b) = bytesOf a ++ bytesOf b := by
  have : (bytesOf (a ++ b)).data = (bytesOf a ++ bytesOf b).data := by simp [bytesOf]
  cases h : bytesOf (a ++ b); cases h2 : (bytesOf a ++ bytesOf b)
  rw [h, h2] at this
  simp at this
  rw [this]
theorem strB_ok {P : Program} {ν : Nu} {w : World} {op : BinOp} {t : TypeId} {x y : List Nat} {v : AV} (h : strB op x y = some v) : ∃ c, (binOp op t (.string (bytesOf x)) (.string (bytesOf y))).run P w = .ok c w ∧ v.conc ν = some c := by
  unfold strB at h
  cases op <;> simp only at h <;> first | (cases h; done) | skip
  · split at h
    · rename_i hb
      cases h
      have hb := Nat.le_of_ble_eq_true hb
      refine ⟨.string (bytesOf x ++ bytesOf y), ?_, by unfold AV.conc; rw [bytesOf_append]⟩
      have : ¬ (IntKind.i64.max < ((x.length : Int) + (y.length : Int))) := by
        have : IntKind.i64.max = 9223372036854775807 := rfl
        rw [this]; omega
      simp only [binOp, Op.stringOp, bytesOf_size, gt_iff_lt]
      rw [if_neg (by simpa using this)]
      rfl
    · cases h
  · cases h
    refine ⟨_, by simp [binOp, Op.stringOp, ByteArray.toList_eq, bytesOf_data]; rfl, ?_⟩
    unfold AV.conc; rw [natsEq_eq, map_u8]
  · cases h
    refine ⟨_, by simp [binOp, Op.stringOp, ByteArray.toList_eq, bytesOf_data]; rfl, ?_⟩
    unfold AV.conc; rw [natsEq_eq, map_u8]
end Go.Proofs.YtdgjcjhicbgfaaaGreat
end

/- The machine's steps on values of several parts, on pointers, slices and maps, that write nothing: each does what the model's does. Conditions: none but those that the lemmas name. -/
section
set_option linter.unusedSimpArgs false
set_option linter.unusedVariables false
namespace Go.Proofs.YtdgjcjhicbgfaaaGreat
open Go.RowKit

/-- A step of a value. -/
def VS (P : Program) (ν : Nu) (w : World) (s : Sem Value) (v : AV) : Prop := ∃ c, s.run P w = .ok c w ∧ v.conc ν = some c
theorem VS.fs {P : Program} {ν : Nu} {w : World} {s : Sem Value} {v : AV} (h : VS P ν w s v) : FS P ν w (do pure (.value (← s))) (.val v) := by
  obtain ⟨c, h1, h2⟩ := h
  exact ⟨c, by simp [h1], h2⟩

/-! ### What asks nothing of the world -/
def pureRun {α : Type} (P : Program) : Sem α → Option α
  | .pure a => some a
  | .program k => pureRun P (k P)
  | _ => none
theorem pureRun_ok {α : Type} {P : Program} {w : World} : ∀ (s : Sem α) (a : α), pureRun P s = some a → s.run P w = .ok a w
  | .pure a, b, h => by cases h; rfl
  | .program k, b, h => pureRun_ok (k P) b h
  | .load .., _, h | .store .., _, h | .new .., _, h | .shape .., _, h | .freeze .., _, h | .frozen .., _, h | .getObj .., _, h | .setObj .., _, h | .choose .., _, h | .sys .., _, h | .mark .., _, h | .halt .., _, h => by cases h
def plain1 : AV → Option Value
  | .bool b => some (.bool b)
  | .int k n => some (.int k n)
  | .str s => some (.string (bytesOf s))
  | .nptr => some (.pointer none)
  | _ => none
def plainL : List AV → Option (List Value)
  | [] => some []
  | v :: vs => match plain1 v, plainL vs with | some a, some l => some (a :: l) | _, _ => none
def plain : AV → Option Value
  | .agg cs => match plainL cs with | some l => some (.agg l.toArray) | none => none
  | v => plain1 v
theorem plain1_ok {ν : Nu} {v : AV} {c : Value} (h : plain1 v = some c) : v.conc ν = some c := by
  unfold plain1 at h
  split at h <;> first | (cases h; unfold AV.conc; rfl) | cases h
theorem plainL_ok {ν : Nu} : ∀ {vs : List AV} {l : List Value}, plainL vs = some l → AV.concL ν vs = some l
  | [], l, h => by cases h; exact concL_nil ν
  | v :: vs, l, h => by
    unfold plainL at h
    cases hv : plain1 v with
    | none => rw [hv] at h; cases h
    | some x =>
      cases hd : plainL vs with
      | none => rw [hv, hd] at h; cases h
      | some y => rw [hv, hd] at h; cases h; exact concL_mk (plain1_ok hv) (plainL_ok hd)
theorem plain_ok {ν : Nu} {v : AV} {c : Value} (h : plain v = some c) : v.conc ν = some c := by
  unfold plain at h
  split at h
  · rename_i cs
    cases hd : plainL cs with
    | none => rw [hd] at h; cases h
    | some y => rw [hd] at h; cases h; exact conc_agg_mk (plainL_ok hd)
  · exact plain1_ok h

/-! ### Two operands -/
def nilEq : TypeDesc → AV → AV → Option Bool
  | .pointer _, .nptr, .nptr => some true
  | .pointer _, .ptr .., .nptr => some false
  | .pointer _, .nptr, .ptr .. => some false
  | .slice _, .nsl, .nsl => some true
  | .slice _, .sl .., .nsl => some false
  | .slice _, .slu .., .nsl => some false
  | .map _ _, .nmap, .nmap => some true
  | .map _ _, .map .., .nmap => some false
  | .func _ _ _, .fn .., .nfn => some false
  | .interface _, .iface .., .nif => some false
  | _, _, _ => none
def eqOp : BinOp → Bool → Option Bool
  | .eql, b => some b
  | .neq, b => some (!b)
  | _, _ => none
theorem conc_nptr {ν : Nu} {c : Value} (h : (AV.nptr).conc ν = some c) : c = .pointer none := by unfold AV.conc at h; cases h; rfl
theorem conc_nsl {ν : Nu} {c : Value} (h : (AV.nsl).conc ν = some c) : c = .slice none 0 0 := by unfold AV.conc at h; cases h; rfl
theorem conc_nmap {ν : Nu} {c : Value} (h : (AV.nmap).conc ν = some c) : c = .map none := by unfold AV.conc at h; cases h; rfl
theorem conc_nfn {ν : Nu} {c : Value} (h : (AV.nfn).conc ν = some c) : c = .nilFunc := by unfold AV.conc at h; cases h; rfl
theorem conc_nif {ν : Nu} {c : Value} (h : (AV.nif).conc ν = some c) : c = .nilIface := by unfold AV.conc at h; cases h; rfl
theorem conc_int {ν : Nu} {k : IntKind} {n : Int} {c : Value} (h : (AV.int k n).conc ν = some c) : c = .int k n := by unfold AV.conc at h; cases h; rfl
theorem conc_bool {ν : Nu} {b : Bool} {c : Value} (h : (AV.bool b).conc ν = some c) : c = .bool b := by unfold AV.conc at h; cases h; rfl
theorem conc_str {ν : Nu} {s : List Nat} {c : Value} (h : (AV.str s).conc ν = some c) : c = .string (bytesOf s) := by unfold AV.conc at h; cases h; rfl
theorem bool_conc (ν : Nu) (b : Bool) : (AV.bool b).conc ν = some (.bool b) := by unfold AV.conc; rfl
theorem int_conc (ν : Nu) (k : IntKind) (n : Int) : (AV.int k n).conc ν = some (.int k n) := by unfold AV.conc; rfl
section
variable {P : Program} {T : Tr TypeInfo} (hT : TOk P T) {ν : Nu} {w : World}
include hT
theorem nilIn_ok {t : TypeId} {d : TypeDesc} {x y : AV} {a b : Value} {r : Bool} (n : Nat) (hd : undT T t = some d) (h : nilEq d x y = some r) (hx : x.conc ν = some a) (hy : y.conc ν = some b) :
    (Op.equalIn (n + 1) t a b).run P w = .ok r w ∧ (∀ op xo yo, (eqGuard op t xo yo a b).run P w = .ok () w) ∧ binOp .eql t a b = (do pure (.bool (← Op.equal t a b))) ∧ binOp .neq t a b = (do pure (.bool (!(← Op.equal t a b)))) := by
  have hu := run_und hT w hd
  unfold nilEq at h
  split at h <;> first | (cases h; done) | skip
  all_goals
    cases h
    first | obtain rfl := conc_nptr hx | obtain ⟨_, _, _, _, rfl⟩ := conc_ptr hx | obtain rfl := conc_nsl hx | obtain ⟨_, _, _, _, rfl⟩ := conc_sl hx | obtain ⟨_, _, _, _, _, rfl⟩ := conc_slu hx | obtain rfl := conc_nmap hx | obtain ⟨_, _, _, _, rfl⟩ := conc_map hx | obtain ⟨_, _, _, _, rfl⟩ := conc_fn hx | obtain ⟨_, _, rfl⟩ := conc_iface hx
    first | obtain rfl := conc_nptr hy | obtain ⟨_, _, _, _, rfl⟩ := conc_ptr hy | obtain rfl := conc_nsl hy | obtain rfl := conc_nmap hy | obtain rfl := conc_nfn hy | obtain rfl := conc_nif hy
    refine ⟨by rw [Op.equalIn]; simp [hu], ?_, rfl, rfl⟩
    intro op xo yo
    cases op <;> simp [eqGuard]
theorem nilEq_ok {op : BinOp} {t : TypeId} {xo yo : Operand} {d : TypeDesc} {x y : AV} {a b : Value} {r s : Bool} (hd : undT T t = some d) (h : nilEq d x y = some r) (ho : eqOp op r = some s) (hx : x.conc ν = some a) (hy : y.conc ν = some b) :
    VS P ν w (do eqGuard op t xo yo a b; binOp op t a b) (.bool s) := by
  obtain ⟨h1, h2, h3, h4⟩ := nilIn_ok (P := P) (w := w) hT 9999 hd h hx hy
  have h1 : (Op.equal t a b).run P w = .ok r w := h1
  refine ⟨.bool s, ?_, bool_conc _ _⟩
  unfold eqOp at ho
  split at ho <;> first | (cases ho; done) | skip
  · cases ho; rw [h3]; simp [h2, h1]
  · cases ho; rw [h4]; simp [h2, h1]
end
def fBin (P : Program) (T : Tr TypeInfo) (σ : St) (op : BinOp) (t : TypeId) (xo yo : Operand) (x y : AV) : Option FR :=
  match x, y with
  | .int k a, .int k' b => match op with
    | .shl | .shr => match shI op k a b with | some v => some (.val v) | none => none
    | _ => if k = k' then match binI op k a b with | some v => some (.val v) | none => none else none
  | .str a, .str b => match strB op a b with | some v => some (.val v) | none => none
  | .sym .., _ | _, .sym .. => binS σ op x y
  | .agg _, .agg _ | .bool _, .bool _ =>
    match plain x, plain y with
    | some a, some b => match pureRun P (do eqGuard op t xo yo a b; binOp op t a b) with
      | some (.bool r) => some (.val (.bool r))
      | _ => none
    | _, _ => none
  | _, _ => match undT T t with
    | some d => match nilEq d x y with
      | some r => match eqOp op r with | some s => some (.val (.bool s)) | none => none
      | none => none
    | none => none
theorem eqGuard_int {P : Program} {w : World} {op : BinOp} {t : TypeId} {xo yo : Operand} {k k' : IntKind} {a b : Int} : (eqGuard op t xo yo (.int k a) (.int k' b)).run P w = .ok () w := by
  unfold eqGuard
  cases op <;> simp
theorem eqGuard_str {P : Program} {w : World} {op : BinOp} {t : TypeId} {xo yo : Operand} {a b : ByteArray} : (eqGuard op t xo yo (.string a) (.string b)).run P w = .ok () w := by
  unfold eqGuard
  cases op <;> simp
theorem FS.guard {P : Program} {ν : Nu} {w : World} {s : Sem Unit} {r : Sem Value} {f : FR} (h : s.run P w = .ok () w) (k : FS P ν w (do pure (.value (← r))) f) : FS P ν w (do pure (.value (← (do s; r)))) f := by
  cases f with
  | val v => obtain ⟨c, h1, h2⟩ := k; exact ⟨c, by simpa [h] using h1, h2⟩
  | new o kk => obtain ⟨c, w', e, h1, h2⟩ := k; exact ⟨c, w', e, by simpa [h] using h1, h2⟩
theorem fBin_ok {P : Program} {T : Tr TypeInfo} (hT : TOk P T) {base : Nat} {ν : Nu} {σ : St} {w : World} (r : Rel base ν σ w) {op : BinOp} {t : TypeId} {xo yo : Operand} {x y : AV} {a b : Value} {f : FR}
    (h : fBin P T σ op t xo yo x y = some f) (hx : x.conc ν = some a) (hy : y.conc ν = some b) : FS P ν w (do pure (.value (← (do eqGuard op t xo yo a b; binOp op t a b)))) f := by
  unfold fBin at h
  split at h
  · obtain rfl := conc_int hx
    obtain rfl := conc_int hy
    refine FS.guard eqGuard_int ?_
    split at h
    · split at h
      · rename_i hs; cases h
        obtain ⟨c, h1, h2⟩ := shI_ok (P := P) (ν := ν) (w := w) (t := t) hs
        exact VS.fs ⟨c, h1, h2⟩
      · cases h
    · split at h
      · rename_i hs; cases h
        obtain ⟨c, h1, h2⟩ := shI_ok (P := P) (ν := ν) (w := w) (t := t) hs
        exact VS.fs ⟨c, h1, h2⟩
      · cases h
    · split at h
      · rename_i hk; subst hk
        split at h
        · rename_i hs; cases h
          obtain ⟨c, h1, h2⟩ := binI_ok (P := P) (ν := ν) (w := w) (t := t) hs
          exact VS.fs ⟨c, h1, h2⟩
        · cases h
      · cases h
  · obtain rfl := conc_str hx
    obtain rfl := conc_str hy
    refine FS.guard eqGuard_str ?_
    split at h
    · rename_i hs; cases h
      obtain ⟨c, h1, h2⟩ := strB_ok (P := P) (ν := ν) (w := w) (t := t) hs
      exact VS.fs ⟨c, h1, h2⟩
    · cases h
  · have : ∃ k k' z z', a = .int k z ∧ b = .int k' z' := by
      have h' := h
      unfold binS at h'
      split at h'
      · rename_i lo1 hi1 lo2 hi2 h1 h2
        obtain ⟨z1, rfl, _, _⟩ := bnd_ok r h1 hx
        obtain ⟨z2, rfl, _, _⟩ := bnd_ok r h2 hy
        exact ⟨_, _, _, _, rfl, rfl⟩
      · cases h'
    have hb := binS_ok (P := P) (t := t) r h hx hy
    obtain ⟨k, k', z, z', rfl, rfl⟩ := this
    exact FS.guard eqGuard_int hb
  · have : ∃ k k' z z', a = .int k z ∧ b = .int k' z' := by
      have h' := h
      unfold binS at h'
      split at h'
      · rename_i lo1 hi1 lo2 hi2 h1 h2
        obtain ⟨z1, rfl, _, _⟩ := bnd_ok r h1 hx
        obtain ⟨z2, rfl, _, _⟩ := bnd_ok r h2 hy
        exact ⟨_, _, _, _, rfl, rfl⟩
      · cases h'
    have hb := binS_ok (P := P) (t := t) r h hx hy
    obtain ⟨k, k', z, z', rfl, rfl⟩ := this
    exact FS.guard eqGuard_int hb
  · split at h
    · rename_i h1 h2
      split at h
      · rename_i hp; cases h
        have e1 := plain_ok (ν := ν) h1
        have e2 := plain_ok (ν := ν) h2
        rw [hx] at e1; cases e1
        rw [hy] at e2; cases e2
        exact VS.fs ⟨_, pureRun_ok _ _ hp, bool_conc _ _⟩
      · cases h
    · cases h
  · split at h
    · rename_i h1 h2
      split at h
      · rename_i hp; cases h
        have e1 := plain_ok (ν := ν) h1
        have e2 := plain_ok (ν := ν) h2
        rw [hx] at e1; cases e1
        rw [hy] at e2; cases e2
        exact VS.fs ⟨_, pureRun_ok _ _ hp, bool_conc _ _⟩
      · cases h
    · cases h
  · split at h
    · rename_i d hd
      split at h
      · rename_i rr hr
        split at h
        · rename_i ss hs; cases h
          exact VS.fs (nilEq_ok hT hd hr hs hx hy)
        · cases h
      · cases h
    · cases h
end Go.Proofs.YtdgjcjhicbgfaaaGreat
end

/- More of the machine's steps that write nothing. Conditions: none but those that the lemmas name. -/
section
set_option linter.unusedSimpArgs false
set_option linter.unusedVariables false
namespace Go.Proofs.YtdgjcjhicbgfaaaGreat
open Go.RowKit

def acells : AV → List AV
  | .agg cs => cs
  | v => [v]
theorem acells_ok {ν : Nu} {v : AV} {c : Value} (h : v.conc ν = some c) : AV.concL ν (acells v) = some c.cells.toList := by
  cases v with
  | agg cs => obtain ⟨l, h1, rfl⟩ := conc_agg h; simpa [acells, Value.cells] using h1
  | _ =>
    have hc : c.cells.toList = [c] := by
      unfold AV.conc at h
      first
      | (cases h; rfl)
      | (split at h <;> first | (cases h; done) | (cases h; rfl) | (split at h <;> first | (cases h; done) | (cases h; rfl)))
    rw [hc]
    exact concL_mk h (concL_nil ν)

section
variable {P : Program} {T : Tr TypeInfo} (hT : TOk P T) {base : Nat} {ν : Nu} {σ : St} {w : World}

/-! ### Parts -/
def partA (T : Tr TypeInfo) (t : TypeId) (cs : List AV) (off : Nat) : Option AV :=
  match aggT T t with
  | some true => match sizeT T t with
    | some n => match cut cs off n with | some l => some (.agg l) | none => none
    | none => none
  | some false => cs[off]?
  | none => none
include hT in
theorem partA_ok {t : TypeId} {cs : List AV} {off : Nat} {v : AV} {l : List Value} (h : partA T t cs off = some v) (hl : AV.concL ν cs = some l) : VS P ν w (part t l.toArray off) v := by
  unfold partA at h
  split at h
  · rename_i ha
    split at h
    · rename_i n hn
      split at h
      · rename_i l' hc
        cases h
        obtain ⟨h1, rfl, h3, h4⟩ := cut_some hc
        refine ⟨.agg (l.toArray.extract off (off + n)), by simp [part, run_agg hT w ha, run_size hT w hn], ?_⟩
        have : l.toArray.extract off (off + n) = ((l.drop off).take n).toArray := by
          apply Array.ext'; simp
        rw [this]
        refine conc_agg_mk (concL_of ?_ ?_)
        · have := concL_len hl; simp; omega
        · intro i v x hv hx
          have hi : i < n := by
            rcases Nat.lt_or_ge i n with g | g
            · exact g
            · rw [List.getElem?_eq_none (by omega)] at hv; cases hv
          rw [h4 i hi] at hv
          obtain ⟨y, hy, hc⟩ := concL_get hl _ _ hv
          rw [List.getElem?_take, if_pos hi, List.getElem?_drop, hy] at hx
          cases hx; exact hc
      · cases h
    · cases h
  · rename_i ha
    obtain ⟨y, hy, hc⟩ := concL_get hl _ _ h
    exact ⟨y, by simp [part, run_agg hT w ha, hy], hc⟩
  · cases h
def fieldOf (T : Tr TypeInfo) (t : TypeId) (i : Nat) : Option Field :=
  match undT T t with
  | some (.struct fs) => fs[i]?
  | _ => none
def fField (T : Tr TypeInfo) (t : TypeId) (x : AV) (i : Nat) : Option AV :=
  match fieldOf T t i, x with
  | some f, .agg cs => partA T f.type cs f.offset
  | _, _ => none
theorem fieldOf_ok {t : TypeId} {i : Nat} {f : Field} (h : fieldOf T t i = some f) : ∃ fs, undT T t = some (.struct fs) ∧ fs[i]? = some f := by
  unfold fieldOf at h
  split at h
  · rename_i fs hu; exact ⟨fs, hu, h⟩
  · cases h
include hT in
theorem fField_ok {t : TypeId} {x v : AV} {i : Nat} {a : Value} (h : fField T t x i = some v) (hx : x.conc ν = some a) : VS P ν w (Instr.field t a i) v := by
  unfold fField at h
  split at h
  · rename_i f cs hf
    obtain ⟨fs, h1, h2⟩ := fieldOf_ok hf
    obtain ⟨l, hl, rfl⟩ := conc_agg hx
    obtain ⟨c, h3, h4⟩ := partA_ok (P := P) (w := w) hT h hl
    exact ⟨c, by simp [Instr.field, run_und hT w h1, h2, asAgg, h3], h4⟩
  · cases h
def fFieldAddr (T : Tr TypeInfo) (t : TypeId) (x : AV) (i : Nat) : Option AV :=
  match fieldOf T t i, x with
  | some f, .ptr b o => match sizeT T f.type with
    | some (_ + 1) => some (.ptr b (o + f.offset))
    | _ => none
  | _, _ => none
include hT in
theorem fFieldAddr_ok {t : TypeId} {x v : AV} {i : Nat} {a : Value} (h : fFieldAddr T t x i = some v) (hx : x.conc ν = some a) : VS P ν w (Instr.fieldAt t a i) v := by
  unfold fFieldAddr at h
  split at h
  · rename_i f b o hf
    obtain ⟨fs, h1, h2⟩ := fieldOf_ok hf
    split at h
    · rename_i n hn
      cases h
      obtain ⟨k, s, m, hb, rfl⟩ := conc_ptr hx
      refine ⟨.pointer (some ⟨k, s + (o + f.offset), none⟩), ?_, by unfold AV.conc; rw [hb]⟩
      simp [Instr.fieldAt, run_und hT w h1, h2, Instr.sureAddr, fieldPlace, run_size hT w hn, addr_add, Nat.add_assoc]
    · cases h
  · cases h

/-! ### Places in rows -/
/-- Where a slice lies, and how long it is. -/
def sliceOf : AV → Option (Nat × Nat × Nat)
  | .sl b o n _ => some (b, o, n)
  | .slu b o _ n _ => some (b, o, n)
  | _ => none
theorem sliceOf_ok {x : AV} {b o n : Nat} {a : Value} (h : sliceOf x = some (b, o, n)) (hx : x.conc ν = some a) : ∃ k s m q c, ν b = some (.loc k s m) ∧ a = .slice (some ⟨k, s + q, none⟩) n c ∧ (0 < n → q = o) := by
  unfold sliceOf at h
  split at h
  · cases h
    obtain ⟨k, s, m, hb, rfl⟩ := conc_sl hx
    exact ⟨k, s, m, _, _, hb, rfl, fun _ => rfl⟩
  · cases h
    obtain ⟨k, s, m, hb, hc, rfl⟩ := conc_slu hx
    exact ⟨k, s, m, _, _, hb, rfl, fun h => by rw [if_pos (by omega)]⟩
  · cases h
def natOf : AV → Option Nat
  | .int _ n => if 0 ≤ n then some n.toNat else none
  | _ => none
theorem natOf_ok {x : AV} {n : Nat} {a : Value} (h : natOf x = some n) (hx : x.conc ν = some a) : ∃ k, a = .int k (n : Int) := by
  unfold natOf at h
  split at h
  · split at h
    · rename_i k z hz
      cases h
      obtain rfl := conc_int hx
      exact ⟨k, by rw [Int.toNat_of_nonneg hz]⟩
    · cases h
  · cases h
def fIndexAddr (T : Tr TypeInfo) (t : TypeId) (x ix : AV) : Option AV :=
  match natOf ix, undT T t with
  | some i, some (.array len e) => match x, sizeT T e with
    | .ptr b o, some n => match Nat.blt i len with | true => some (.ptr b (o + i * n)) | false => none
    | _, _ => none
  | some i, some (.slice e) => match sliceOf x, sizeT T e with
    | some (b, o, len), some n => match Nat.blt i len with | true => some (.ptr b (o + i * n)) | false => none
    | _, _ => none
  | _, _ => none
theorem blt_lt {a b : Nat} (h : Nat.blt a b = true) : a < b := by
  unfold Nat.blt at h; exact Nat.le_of_ble_eq_true h
include hT in
theorem fIndexAddr_ok {t : TypeId} {x ix v : AV} {a i : Value} (h : fIndexAddr T t x ix = some v) (hx : x.conc ν = some a) (hi : ix.conc ν = some i) : VS P ν w (Instr.indexAt t a i) v := by
  unfold fIndexAddr at h
  split at h
  · rename_i i' len e hn hu
    obtain ⟨kk, rfl⟩ := natOf_ok hn hi
    split at h
    · rename_i b o n hs
      split at h
      · rename_i hlt
        cases h
        have hlt := blt_lt hlt
        obtain ⟨k, s, m, hb, rfl⟩ := conc_ptr hx
        refine ⟨.pointer (some ⟨k, s + (o + i' * n), none⟩), ?_, by unfold AV.conc; rw [hb]⟩
        have : ¬ len ≤ i' := by omega
        have h0 : (0 : Int) ≤ (i' : Int) := by omega
        simp [Instr.indexAt, asIntOf, run_und hT w hu, Instr.sureAddr, this, h0, hlt, run_size hT w hs, addr_add, Nat.add_assoc]
      · cases h
    · cases h
  · rename_i i' e hn hu
    obtain ⟨kk, rfl⟩ := natOf_ok hn hi
    split at h
    · rename_i b o len n hso hs
      split at h
      · rename_i hlt
        cases h
        have hlt := blt_lt hlt
        obtain ⟨k, s, m, q, c, hb, rfl, hq⟩ := sliceOf_ok hso hx
        obtain rfl := hq (by omega)
        refine ⟨.pointer (some ⟨k, s + (q + i' * n), none⟩), ?_, by unfold AV.conc; rw [hb]⟩
        have : ¬ len ≤ i' := by omega
        have h0 : (0 : Int) ≤ (i' : Int) := by omega
        simp [Instr.indexAt, asIntOf, run_und hT w hu, this, h0, hlt, run_size hT w hs, addr_add, Nat.add_assoc]
      · cases h
    · cases h
  · cases h
def fIndex (T : Tr TypeInfo) (t : TypeId) (x ix : AV) : Option AV :=
  match natOf ix, undT T t with
  | some i, some (.array len e) => match x, sizeT T e with
    | .agg cs, some n => match Nat.blt i len with | true => partA T e cs (i * n) | false => none
    | _, _ => none
  | some i, some .string => match x with
    | .str s => match s[i]? with | some b => some (.int .u8 (b % 256 : Nat)) | none => none
    | _ => none
  | _, _ => none
include hT in
theorem fIndex_ok {t : TypeId} {x ix v : AV} {a i : Value} (h : fIndex T t x ix = some v) (hx : x.conc ν = some a) (hi : ix.conc ν = some i) : VS P ν w (Instr.index t a i) v := by
  unfold fIndex at h
  split at h
  · rename_i i' len e hn hu
    obtain ⟨kk, rfl⟩ := natOf_ok hn hi
    split at h
    · rename_i cs n hs
      split at h
      · rename_i hlt
        have hlt := blt_lt hlt
        obtain ⟨l, hl, rfl⟩ := conc_agg hx
        obtain ⟨c, h3, h4⟩ := partA_ok (P := P) (w := w) hT h hl
        have : ¬ len ≤ i' := by omega
        have h0 : (0 : Int) ≤ (i' : Int) := by omega
        exact ⟨c, by simp [Instr.index, asIntOf, run_und hT w hu, this, h0, hlt, run_size hT w hs, h3], h4⟩
      · cases h
    · cases h
  · rename_i i' hn hu
    obtain ⟨kk, rfl⟩ := natOf_ok hn hi
    split at h
    · rename_i s
      split at h
      · rename_i b hb
        cases h
        obtain rfl := conc_str hx
        have hlt : i' < s.length := (List.getElem?_eq_some_iff.1 hb).1
        have hg : (bytesOf s)[i']? = some (UInt8.ofNat b) := by
          rw [ByteArray.getElem?_lt' _ _ (by rw [bytesOf_size]; exact hlt)]
          congr 1
          show (bytesOf s).data[i' ]'_ = _
          simp only [bytesOf, List.getElem_toArray, List.getElem_map]
          rw [(List.getElem?_eq_some_iff.1 hb).2]
        refine ⟨.int .u8 ((b % 256 : Nat) : Int), ?_, int_conc _ _ _⟩
        simp [Instr.index, asIntOf, run_und hT w hu, hg]
      · cases h
    · cases h
  · cases h

/-! ### Loads -/
def fLoad (T : Tr TypeInfo) (σ : St) (t : TypeId) (x : AV) : Option AV :=
  match x with
  | .ptr b o => match σ.heap.get b with
    | some (.cells c _) => partA T t c o
    | _ => none
  | _ => none
include hT in
theorem fLoad_ok (r : Rel base ν σ w) {t : TypeId} {x v : AV} {a : Value} (h : fLoad T σ t x = some v) (hx : x.conc ν = some a) : VS P ν w (Instr.loadAt t a) v := by
  unfold fLoad at h
  split at h
  · rename_i b o
    split at h
    · rename_i c room hb
      obtain ⟨k, s, m, hν, rfl⟩ := conc_ptr hx
      have hr := r.row hb hν
      unfold partA at h
      split at h
      · rename_i ha
        split at h
        · rename_i n hn
          split at h
          · rename_i l hc
            cases h
            obtain ⟨vs, h1, h2, h3⟩ := hr.cells hc
            exact ⟨.agg vs.toArray, by simp [Instr.loadAt, Instr.sureAddr, loadVar, run_agg hT w ha, run_size hT w hn, run_cells h2 h3], conc_agg_mk h1⟩
          · cases h
        · cases h
      · rename_i ha
        obtain ⟨u, h1, h2⟩ := hr.cell h
        exact ⟨u, by simp [Instr.loadAt, Instr.sureAddr, loadVar, run_agg hT w ha, h1], h2⟩
      · cases h
    · cases h
  · cases h
end
end Go.Proofs.YtdgjcjhicbgfaaaGreat
end

/- The machine's slices of slices, and what is built of parts. Conditions: none but those that the lemmas name. -/
section
set_option linter.unusedSimpArgs false
set_option linter.unusedVariables false
namespace Go.Proofs.YtdgjcjhicbgfaaaGreat
open Go.RowKit

/-! ### Slices of slices -/
def OptC (ν : Nu) : Option AV → Option Value → Prop
  | none, none => True
  | some a, some v => a.conc ν = some v
  | _, _ => False
def bndA (x : Option AV) (dflt top : Nat) : Option Nat :=
  match x with
  | none => some dflt
  | some v => match natOf v with
    | some i => match Nat.ble i top with | true => some i | false => none
    | none => none
def slA (len top : Nat) (lo hi mx : Option AV) : Option (Nat × Nat × Option Nat) :=
  match mx, hi with
  | some _, none => none
  | _, _ => match bndA mx top top with
    | some m => match bndA hi len m with
      | some h => match bndA lo 0 h with
        | some l => some (l, h, match mx with | some _ => some m | none => none)
        | none => none
      | none => none
    | none => none
theorem bndA_le {x : Option AV} {d top i : Nat} (h : bndA x d top = some i) (hd : d ≤ top) : i ≤ top := by
  unfold bndA at h
  split at h
  · cases h; exact hd
  · split at h
    · split at h
      · cases h; exact Nat.le_of_ble_eq_true ‹_›
      · cases h
    · cases h
theorem bound_ok {P : Program} {ν : Nu} {w : World} {v : AV} {c : Value} {i top y : Nat} {code : BoundsCode} (h : bndA (some v) 0 top = some i) (hv : v.conc ν = some c) (hy : top ≤ y) : (Instr.sliceBound c y code).run P w = .ok i w := by
  unfold bndA at h
  split at h
  · rename_i hh; cases hh
  · rename_i _ v' hh
    cases hh
    split at h
    · rename_i i' hn
      split at h
      · rename_i hb
        cases h
        have hb := Nat.le_of_ble_eq_true hb
        obtain ⟨k, rfl⟩ := natOf_ok hn hv
        have h1 : (0 : Int) ≤ (i : Int) ∧ (i : Int) ≤ (y : Int) := by omega
        have h2 : i ≤ y := by omega
        simp [Instr.sliceBound, asIntOf, h1, h2]
      · cases h
    · cases h
theorem slA_ok {P : Program} {ν : Nu} {w : World} {len top cap l h : Nat} {m : Option Nat} {lo hi mx : Option AV} {lo' hi' mx' : Option Value} (isSlice : Bool) (hs : slA len top lo hi mx = some (l, h, m))
    (h1 : OptC ν lo lo') (h2 : OptC ν hi hi') (h3 : OptC ν mx mx') (ht : top ≤ cap) (hl : len ≤ top) :
    (Instr.sliceBounds isSlice len cap lo' hi' mx').run P w = .ok (l, h, m.getD cap) w ∧ l ≤ h ∧ (∀ x, m = some x → h ≤ x ∧ x ≤ top) ∧ h ≤ top := by
  unfold slA at hs
  split at hs
  · cases hs
  · rename_i hne
    split at hs
    · rename_i m0 hm
      split at hs
      · rename_i h0 hh
        split at hs
        · rename_i l0 hl0
          injection hs with hs
          injection hs with e1 hs
          injection hs with e2 e3
          subst e1 e2
          have hlh : l0 ≤ h0 := bndA_le hl0 (Nat.zero_le _)
          have hm0 : m0 ≤ top := bndA_le hm (Nat.le_refl _)
          cases mx with
          | none =>
            cases mx' with
            | some _ => exact h3.elim
            | none =>
              unfold bndA at hm; cases hm
              subst e3
              have hh0 : h0 ≤ top := bndA_le hh hl
              refine ⟨?_, hlh, (fun x hx => by cases hx), hh0⟩
              cases hi with
              | none =>
                cases hi' with
                | some _ => exact h2.elim
                | none =>
                  unfold bndA at hh; cases hh
                  cases lo with
                  | none => cases lo' with
                    | some _ => exact h1.elim
                    | none => unfold bndA at hl0; cases hl0; simp [Instr.sliceBounds]
                  | some lv => cases lo' with
                    | none => exact h1.elim
                    | some lv' =>
                      have := fun code => bound_ok (P := P) (w := w) (code := code) (y := len) (by unfold bndA at hl0 ⊢; exact hl0) h1 (Nat.le_refl _)
                      simp [Instr.sliceBounds, this]
              | some hv => cases hi' with
                | none => exact h2.elim
                | some hv' =>
                  have q := fun code => bound_ok (P := P) (w := w) (code := code) (y := cap) (by unfold bndA at hh ⊢; exact hh) h2 ht
                  cases lo with
                  | none => cases lo' with
                    | some _ => exact h1.elim
                    | none => unfold bndA at hl0; cases hl0; simp [Instr.sliceBounds, q]
                  | some lv => cases lo' with
                    | none => exact h1.elim
                    | some lv' =>
                      have := fun code => bound_ok (P := P) (w := w) (code := code) (y := h0) (by unfold bndA at hl0 ⊢; exact hl0) h1 (Nat.le_refl _)
                      simp [Instr.sliceBounds, this, q]
          | some mv =>
            cases mx' with
            | none => exact h3.elim
            | some mv' =>
              subst e3
              have qm := fun code => bound_ok (P := P) (w := w) (code := code) (y := cap) (by unfold bndA at hm ⊢; exact hm) h3 ht
              cases hi with
              | none => exact (hne _ rfl rfl).elim
              | some hv => cases hi' with
                | none => exact h2.elim
                | some hv' =>
                  have hhm : h0 ≤ m0 := by
                    unfold bndA at hh
                    simp only at hh
                    split at hh
                    · split at hh
                      · cases hh; exact Nat.le_of_ble_eq_true ‹_›
                      · cases hh
                    · cases hh
                  refine ⟨?_, hlh, (fun x hx => by cases hx; exact ⟨hhm, hm0⟩), by omega⟩
                  have q := fun code => bound_ok (P := P) (w := w) (code := code) (y := m0) (by unfold bndA at hh ⊢; exact hh) h2 (Nat.le_refl _)
                  cases lo with
                  | none => cases lo' with
                    | some _ => exact h1.elim
                    | none => unfold bndA at hl0; cases hl0; simp [Instr.sliceBounds, q, qm]
                  | some lv => cases lo' with
                    | none => exact h1.elim
                    | some lv' =>
                      have := fun code => bound_ok (P := P) (w := w) (code := code) (y := h0) (by unfold bndA at hl0 ⊢; exact hl0) h1 (Nat.le_refl _)
                      simp [Instr.sliceBounds, this, q, qm]
        · cases hs
      · cases hs
    · cases hs
def noughtOrNone : Option AV → Bool
  | none => true
  | some (.int _ n) => n == 0
  | _ => false
def allOf (σ : St) (b : Nat) : Option AV → Bool
  | none => true
  | some v => match σ.heap.get b with
    | some (.txt n _) => match same n v with | some 0 => true | _ => false
    | _ => false
def fSlice (T : Tr TypeInfo) (σ : St) (t : TypeId) (x : AV) (lo hi mx : Option AV) : Option AV :=
  match undT T t with
  | some (.array n e) => match x, sizeT T e, slA n n lo hi mx with
    | .ptr b o, some sz, some (l, h, m) => some (.sl b (match Nat.beq (m.getD n) l with | true => o | false => o + l * sz) (h - l) (m.getD n - l))
    | _, _, _ => none
  | some .string => match x, mx with
    | .str s, none => match slA s.length s.length lo hi none with
      | some (l, h, _) => some (.str ((s.drop l).take (h - l)))
      | none => none
    | .txt b, none => match noughtOrNone lo, allOf σ b hi with
      | true, true => some x
      | _, _ => none
    | _, _ => none
  | some (.slice e) => match x, sizeT T e with
    | .sl b o n c, some sz => match Nat.ble n c with
      | true => match slA n c lo hi mx with
        | some (l, h, m) => some (.sl b (match Nat.beq (m.getD c) l with | true => o | false => o + l * sz) (h - l) (m.getD c - l))
        | none => none
      | false => none
    | .slu b o o' n d, some sz => match slA n n lo hi mx with
      | some (l, h, none) => match l with
        | 0 => some (.slu b o o' (h - l) d)
        | _ + 1 => some (.slu b (o + l * sz) o (h - l) (d + l))
      | some (l, h, some m) => match n with
        | 0 => none
        | _ + 1 => some (.sl b (match Nat.beq m l with | true => o | false => o + l * sz) (h - l) (m - l))
      | none => none
    | .nsl, some _ => match slA 0 0 lo hi mx with
      | some _ => some .nsl
      | none => none
    | _, _ => none
  | _ => none
theorem beq_if {a b : Nat} {α : Type} (x y : α) : (match Nat.beq a b with | true => x | false => y) = if a = b then x else y := by
  by_cases h : a = b
  · subst h; simp
  · rw [if_neg h]
    have : Nat.beq a b = false := by
      cases hb : Nat.beq a b
      · rfl
      · exact (h (Nat.eq_of_beq_eq_true hb)).elim
    rw [this]
theorem extract_all (s : ByteArray) : s.extract 0 s.size = s := by simp
section
variable {P : Program} {T : Tr TypeInfo} (hT : TOk P T) {base : Nat} {ν : Nu} {σ : St} {w : World}
include hT
theorem fSlice_ok (r : Rel base ν σ w) {t : TypeId} {x v : AV} {lo hi mx : Option AV} {a : Value} {lo' hi' mx' : Option Value} (h : fSlice T σ t x lo hi mx = some v) (hx : x.conc ν = some a)
    (h1 : OptC ν lo lo') (h2 : OptC ν hi hi') (h3 : OptC ν mx mx') : VS P ν w (Instr.sliceAt t a lo' hi' mx') v := by
  unfold fSlice at h
  split at h
  · rename_i n e hu
    split at h
    · rename_i b o sz l hh m hs hb
      cases h
      obtain ⟨k, s, mm, hν, rfl⟩ := conc_ptr hx
      obtain ⟨q, q1, q2, q3⟩ := slA_ok (P := P) (w := w) (cap := n) false hb h1 h2 h3 (Nat.le_refl _) (Nat.le_refl _)
      refine ⟨.slice (some ⟨k, s + (if m.getD n = l then o else o + l * sz), none⟩) (hh - l) (m.getD n - l), ?_, by unfold AV.conc; rw [hν, beq_if]⟩
      simp only [Instr.sliceAt, Sem.run_bind, run_und hT w hu, Result.andThen_ok, Instr.sureAddr, q, run_size hT w hs, Sem.run_pure]
      by_cases e : m.getD n = l
      · simp [e]
      · simp [e, addr_add, Nat.add_assoc]
    · cases h
  · rename_i hu
    split at h
    · rename_i s
      split at h
      · rename_i l hh m hb
        cases h
        cases mx' with
        | some _ => exact h3.elim
        | none =>
          obtain rfl := conc_str hx
          obtain ⟨q, q1, q2, q3⟩ := slA_ok (P := P) (w := w) (cap := s.length) false hb h1 h2 (show OptC ν none none from trivial) (Nat.le_refl _) (Nat.le_refl _)
          refine ⟨.string ((bytesOf s).extract l hh), ?_, ?_⟩
          · simp [Instr.sliceAt, Instr.slice, run_und hT w hu, bytesOf_size, q]
          · unfold AV.conc
            congr 2
            have e : (bytesOf (List.take (hh - l) (List.drop l s))).data.toList = ((bytesOf s).extract l hh).data.toList := by
              rw [Lib.extract_data, bytesOf_data, bytesOf_data, ← List.map_drop, ← List.map_take]
            cases h5 : bytesOf (List.take (hh - l) (List.drop l s)); cases h6 : (bytesOf s).extract l hh
            rw [h5, h6] at e
            simp at e
            rw [e]
      · cases h
    · rename_i b
      split at h
      · rename_i hn ha
        cases h
        cases mx' with
        | some _ => exact h3.elim
        | none =>
          obtain ⟨s, hν, rfl⟩ := conc_txt hx
          refine ⟨.string s, ?_, hx⟩
          have hlo : ∀ code, lo' = none ∨ ∃ c, lo' = some c ∧ (Instr.sliceBound c s.size code).run P w = .ok 0 w := by
            intro code
            unfold noughtOrNone at hn
            split at hn
            · cases lo' with
              | none => exact .inl rfl
              | some _ => exact h1.elim
            · rename_i k z
              cases lo' with
              | none => exact h1.elim
              | some c =>
                obtain rfl := conc_int h1
                simp at hn; subst hn
                exact .inr ⟨_, rfl, by simp [Instr.sliceBound, asIntOf]⟩
            · cases hn
          have hhi : ∀ code, hi' = none ∨ ∃ c, hi' = some c ∧ (Instr.sliceBound c s.size code).run P w = .ok s.size w := by
            intro code
            unfold allOf at ha
            split at ha
            · cases hi' with
              | none => exact .inl rfl
              | some _ => exact h2.elim
            · rename_i v'
              cases hi' with
              | none => exact h2.elim
              | some c =>
                split at ha
                · rename_i n pv hb
                  split at ha <;> first | (cases ha; done) | skip
                  rename_i hsame
                  obtain ⟨e, he, hi⟩ := r.obj _ _ hb
                  rw [hν] at he; cases he
                  cases hi with
                  | txt _ _ _ hh =>
                    have hc : v'.conc ν = some c := h2
                    have hcint : ∃ y, c = .int .i64 y := by
                      unfold same at hsame
                      split at hsame
                      · obtain ⟨z, _, e⟩ := conc_sym hc; exact ⟨_, e⟩
                      · cases hsame
                    obtain ⟨y, rfl⟩ := hcint
                    have hd := same_ok hsame hh hc
                    have hy : y = (s.size : Int) := by omega
                    subst hy
                    exact .inr ⟨_, rfl, by simp [Instr.sliceBound, asIntOf]⟩
                · cases ha
          rcases hlo .sliceB with rfl | ⟨c1, rfl, g1⟩
          · rcases hhi .sliceAlen with rfl | ⟨c2, rfl, g2⟩
            · simp [Instr.sliceAt, Instr.slice, run_und hT w hu, Instr.sliceBounds]
            · simp [Instr.sliceAt, Instr.slice, run_und hT w hu, Instr.sliceBounds, g2]
          · rcases hhi .sliceAlen with rfl | ⟨c2, rfl, g2⟩
            · simp [Instr.sliceAt, Instr.slice, run_und hT w hu, Instr.sliceBounds, g1]
            · simp [Instr.sliceAt, Instr.slice, run_und hT w hu, Instr.sliceBounds, g1, g2]
      · cases h
    · cases h
  · rename_i e hu
    split at h
    · rename_i b o n c sz hs
      split at h
      · rename_i hnc
        have hnc := Nat.le_of_ble_eq_true hnc
        split at h
        · rename_i l hh m hb
          cases h
          obtain ⟨k, s, mm, hν, rfl⟩ := conc_sl hx
          obtain ⟨q, q1, q2, q3⟩ := slA_ok (P := P) (w := w) (cap := c) true hb h1 h2 h3 (Nat.le_refl _) hnc
          refine ⟨.slice (some ⟨k, s + (if m.getD c = l then o else o + l * sz), none⟩) (hh - l) (m.getD c - l), ?_, by unfold AV.conc; rw [hν, beq_if]⟩
          simp only [Instr.sliceAt, Instr.slice, Sem.run_bind, run_und hT w hu, Result.andThen_ok, q, run_size hT w hs, Sem.run_pure]
          by_cases e : m.getD c = l
          · simp [e]
          · simp [e, addr_add, Nat.add_assoc]
        · cases h
      · cases h
    · rename_i b o o' n d sz hs
      obtain ⟨k, s, cap, hν, hcap, rfl⟩ := conc_slu hx
      split at h
      · rename_i l hh hb
        obtain ⟨q, q1, q2, q3⟩ := slA_ok (P := P) (w := w) (cap := cap - d) true hb h1 h2 h3 (by omega) (Nat.le_refl _)
        simp only [Option.getD_none] at q
        cases l with
        | zero =>
          simp only at h
          cases h
          refine ⟨.slice (some ⟨k, s + (if d < cap then o else o'), none⟩) (hh - 0) (cap - d), ?_, conc_slu_mk hν (by omega)⟩
          simp only [Instr.sliceAt, Instr.slice, Sem.run_bind, run_und hT w hu, Result.andThen_ok, q, run_size hT w hs, Sem.run_pure]
          by_cases e : cap - d = 0
          · simp [e]
          · simp [e, addr_add]
        | succ l =>
          simp only at h
          cases h
          refine ⟨.slice (some ⟨k, s + (if d + (l + 1) < cap then o + (l + 1) * sz else o), none⟩) (hh - (l + 1)) (cap - (d + (l + 1))), ?_, conc_slu_mk hν (by omega)⟩
          simp only [Instr.sliceAt, Instr.slice, Sem.run_bind, run_und hT w hu, Result.andThen_ok, q, run_size hT w hs, Sem.run_pure]
          rw [if_pos (show d < cap by omega)]
          by_cases e : cap - d = l + 1
          · rw [if_pos e, if_neg (by omega)]
            congr 2
            omega
          · rw [if_neg e, if_pos (by omega)]
            simp only [Option.map_some, addr_add, Nat.add_assoc]
            congr 2
            omega
      · rename_i l hh m hb
        obtain ⟨q, q1, q2, q3⟩ := slA_ok (P := P) (w := w) (cap := cap - d) true hb h1 h2 h3 (by omega) (Nat.le_refl _)
        simp only [Option.getD_some] at q
        cases n with
        | zero => cases h
        | succ n =>
          simp only at h
          cases h
          refine ⟨.slice (some ⟨k, s + (if m = l then o else o + l * sz), none⟩) (hh - l) (m - l), ?_, by unfold AV.conc; rw [hν, beq_if]⟩
          simp only [Instr.sliceAt, Instr.slice, Sem.run_bind, run_und hT w hu, Result.andThen_ok, q, run_size hT w hs, Sem.run_pure]
          rw [if_pos (show d < cap by omega)]
          by_cases e : m = l
          · simp [e]
          · simp [e, addr_add, Nat.add_assoc]
      · cases h
    · rename_i sz hs
      split at h
      · rename_i y hb
        cases h
        obtain ⟨l, hh, m⟩ := y
        obtain rfl := conc_nsl hx
        obtain ⟨q, q1, q2, q3⟩ := slA_ok (P := P) (w := w) (cap := 0) true hb h1 h2 h3 (Nat.le_refl _) (Nat.le_refl _)
        have e1 : hh = 0 := by omega
        have e2 : l = 0 := by omega
        subst e1 e2
        refine ⟨.slice none 0 0, ?_, by unfold AV.conc; rfl⟩
        have : m.getD 0 = 0 := by
          cases m with
          | none => rfl
          | some x => have := (q2 x rfl).2; simp; omega
        simp [Instr.sliceAt, Instr.slice, run_und hT w hu, q, run_size hT w hs, this]
      · cases h
    · cases h
  · cases h
end
end Go.Proofs.YtdgjcjhicbgfaaaGreat
end

/- What the machine builds and makes. Conditions: none but those that the lemmas name. -/
section
set_option linter.unusedSimpArgs false
set_option linter.unusedVariables false
namespace Go.Proofs.YtdgjcjhicbgfaaaGreat
open Go.RowKit

/-! ### Filling -/
def splice (cells : List AV) (off : Nat) (vs : List AV) : List AV := cells.take off ++ (vs ++ cells.drop (off + vs.length))
theorem foldl_splice (off : Nat) : ∀ (l : List Value) (j : Nat) (cs : Array Value), off + j + l.length ≤ cs.size →
    ((l.zipIdx j).foldl (fun (cs : Array Value) (p : Value × Nat) => cs.setIfInBounds (off + p.2) p.1) cs).toList = cs.toList.take (off + j) ++ (l ++ cs.toList.drop (off + j + l.length))
  | [], j, cs, h => by simp
  | v :: l, j, cs, h => by
    rw [List.zipIdx_cons, List.foldl_cons, foldl_splice off l (j + 1) _ (by simp at h ⊢; omega)]
    simp at h
    have hlt : off + j < cs.toList.length := by simp; omega
    simp only [Array.toList_setIfInBounds]
    have e1 : off + (j + 1) = off + j + 1 := by omega
    rw [e1, List.take_succ_eq_append_getElem (by simp; omega)]
    simp only [List.getElem_set_self, List.append_assoc, List.singleton_append, List.length_cons]
    rw [List.take_set_of_le (Nat.le_refl _), List.drop_set_of_lt (by omega)]
    congr 3
    congr 1
    omega
def fillA (place : Nat → Option (Nat × Nat)) (cells : List AV) : List (Nat × AV) → Option (List AV)
  | [] => some cells
  | (i, v) :: rest =>
    match place i with
    | none => none
    | some (off, size) =>
      match Nat.beq (acells v).length size, Nat.ble (off + (acells v).length) cells.length with
      | true, true => fillA place (splice cells off (acells v)) rest
      | _, _ => none
def PartsC (ν : Nu) : List (Nat × AV) → List (Nat × Value) → Prop
  | [], [] => True
  | (i, a) :: xs, (j, v) :: ys => i = j ∧ a.conc ν = some v ∧ PartsC ν xs ys
  | _, _ => False
theorem fillA_ok {ν : Nu} {place : Nat → Option (Nat × Nat)} : ∀ {ps : List (Nat × AV)} {qs : List (Nat × Value)} {cells l : List AV} {cs : Array Value}, fillA place cells ps = some l → PartsC ν ps qs → AV.concL ν cells = some cs.toList →
    ∃ r : Array Value, Instr.fill place cs qs = some r ∧ AV.concL ν l = some r.toList
  | [], [], cells, l, cs, h, _, hc => by cases h; exact ⟨cs, rfl, hc⟩
  | (i, a) :: ps, (j, v) :: qs, cells, l, cs, h, ⟨hij, ha, hr⟩, hc => by
    subst hij
    unfold fillA at h
    unfold Instr.fill
    cases hp : place i with
    | none => rw [hp] at h; cases h
    | some os =>
      obtain ⟨off, size⟩ := os
      rw [hp] at h
      simp only at h ⊢
      split at h
      · rename_i b1 b2
        have b1 := Nat.eq_of_beq_eq_true b1
        have b2 := Nat.le_of_ble_eq_true b2
        have hac := acells_ok ha
        have hlen := concL_len hac
        have hlc := concL_len hc
        have hvs : v.cells.size = (acells a).length := by simpa using hlen
        have hcs : cs.size = cells.length := by simpa using hlc
        rw [if_neg (by rw [hvs, hcs]; simp only [ne_eq, bne_iff_ne, Bool.or_eq_true, decide_eq_true_eq]; omega)]
        refine fillA_ok h hr ?_
        have e := foldl_splice off v.cells.toList 0 cs (by simp; omega)
        rw [← Array.foldl_toList, Array.toList_zipIdx]
        refine Eq.trans ?_ (congrArg some e.symm)
        unfold splice
        simp only [Nat.add_zero]
        have h1 : cells = cells.take off ++ cells.drop off := (List.take_append_drop _ _).symm
        have key : ∀ (n : Nat), n ≤ cells.length → AV.concL ν (cells.take n) = some (cs.toList.take n) ∧ AV.concL ν (cells.drop n) = some (cs.toList.drop n) := by
          intro n hn
          obtain ⟨a1, b1', ea, eb, ec⟩ := concL_append_inv (by rw [List.take_append_drop n cells]; exact hc)
          have la := concL_len ea
          have : a1 = cs.toList.take n := by rw [ec, List.take_append_of_le_length (by simp at la; omega), List.take_of_length_le (by simp at la; omega)]
          have : b1' = cs.toList.drop n := by rw [ec, List.drop_append_of_le_length (by simp at la; omega), List.drop_eq_nil_of_le (by simp at la; omega)]; simp
          subst a1 b1'
          exact ⟨ea, eb⟩
        rw [show off + (acells a).length = off + v.cells.toList.length by simp; omega]
        exact concL_append (key off (by omega)).1 (concL_append hac (key _ (by simp; omega)).2)
      · cases h
  | [], _ :: _, _, _, _, _, h, _ => h.elim
  | _ :: _, [], _, _, _, _, h, _ => h.elim

def partsA (ev : Ev) : List (Nat × Operand) → Option (List (Nat × AV))
  | [] => some []
  | (i, x) :: r => match ev x, partsA ev r with | some a, some l => some ((i, a) :: l) | _, _ => none
theorem partsA_ok {ν : Nu} {ev : Ev} {ρ : Operand → Value} (he : EvOk ν ev ρ) : ∀ {ps : List (Nat × Operand)} {l : List (Nat × AV)}, partsA ev ps = some l → PartsC ν l (ps.map fun (i, x) => (i, ρ x))
  | [], l, h => by cases h; trivial
  | (i, x) :: r, l, h => by
    unfold partsA at h
    cases hx : ev x with
    | none => rw [hx] at h; cases h
    | some a =>
      cases hr : partsA ev r with
      | none => rw [hx, hr] at h; cases h
      | some l' => rw [hx, hr] at h; cases h; exact ⟨rfl, he _ _ hx, partsA_ok he hr⟩
def evL (ev : Ev) : List Operand → Option (List AV)
  | [] => some []
  | x :: r => match ev x, evL ev r with | some a, some l => some (a :: l) | _, _ => none
theorem evL_ok {ν : Nu} {ev : Ev} {ρ : Operand → Value} (he : EvOk ν ev ρ) : ∀ {ps : List Operand} {l : List AV}, evL ev ps = some l → AV.concL ν l = some (ps.map ρ)
  | [], l, h => by cases h; exact concL_nil ν
  | x :: r, l, h => by
    unfold evL at h
    cases hx : ev x with
    | none => rw [hx] at h; cases h
    | some a =>
      cases hr : evL ev r with
      | none => rw [hx, hr] at h; cases h
      | some l' => rw [hx, hr] at h; cases h; exact concL_mk (he _ _ hx) (evL_ok he hr)

/-! ### Building -/
def placesA (T : Tr TypeInfo) : List Field → Option (List (Nat × Nat))
  | [] => some []
  | f :: r => match sizeT T f.type, placesA T r with | some n, some l => some ((f.offset, n) :: l) | _, _ => none
def zeroL (T : Tr TypeInfo) (t : TypeId) : Option (List AV) :=
  match zeroT T t with
  | some z => absL z.cells.toList
  | none => none
def fBuild (T : Tr TypeInfo) (ev : Ev) (t : TypeId) (ps : List (Nat × Operand)) : Option AV :=
  match zeroL T t, partsA ev ps with
  | some z, some l => match undT T t with
    | some (.struct fs) => match placesA T fs.toList with
      | some pl => match fillA (fun i => pl[i]?) z l with | some cs => some (.agg cs) | none => none
      | none => none
    | some (.array _ e) => match sizeT T e with
      | some n => match fillA (fun i => some (i * n, n)) z l with | some cs => some (.agg cs) | none => none
      | none => none
    | _ => none
  | _, _ => none
section
variable {P : Program} {T : Tr TypeInfo} (hT : TOk P T) {base : Nat} {ν : Nu} {σ : St} {w : World}
include hT
theorem zeroL_ok {t : TypeId} {l : List AV} (h : zeroL T t = some l) : ∃ z, (zeroValue t).run P w = .ok z w ∧ AV.concL ν l = some z.cells.toList := by
  unfold zeroL at h
  split at h
  · rename_i z hz; exact ⟨z, run_zero hT w hz, absL_conc h⟩
  · cases h
theorem placesL_ok : ∀ {fs : List Field} {l : List (Nat × Nat)}, placesA T fs = some l → (fs.mapM fun f => (do pure (f.offset, ← sizeOf f.type) : Sem (Nat × Nat))).run P w = .ok l w
  | [], l, h => by cases h; simp
  | f :: r, l, h => by
    unfold placesA at h
    cases hx : sizeT T f.type with
    | none => rw [hx] at h; cases h
    | some a =>
      cases hr : placesA T r with
      | none => rw [hx, hr] at h; cases h
      | some l' =>
        rw [hx, hr] at h; cases h
        have ih := placesL_ok hr
        rw [List.mapM_cons]
        simp only [Sem.run_bind, run_size hT w hx, Result.andThen_ok, Sem.run_pure, ih]
theorem places_ok {fs : Array Field} {l : List (Nat × Nat)} (h : placesA T fs.toList = some l) : (fs.mapM fun f => (do pure (f.offset, ← sizeOf f.type) : Sem (Nat × Nat))).run P w = .ok l.toArray w := by
  have := placesL_ok (w := w) hT h
  rw [Array.mapM_eq_mapM_toList]
  simp only [Sem.run_map, this, Result.andThen_ok]
theorem fBuild_ok {ev : Ev} {ρ : Operand → Value} (he : EvOk ν ev ρ) {t : TypeId} {ps : Array (Nat × Operand)} {v : AV} (h : fBuild T ev t ps.toList = some v) : VS P ν w (Instr.build t (ps.map fun (i, x) => (i, ρ x))) v := by
  unfold fBuild at h
  split at h
  · rename_i z l hz hl
    obtain ⟨zv, h1, h2⟩ := zeroL_ok (P := P) (w := w) (ν := ν) hT hz
    have hp := partsA_ok he hl
    split at h
    · rename_i fs hu
      split at h
      · rename_i pl hpl
        split at h
        · rename_i cs hf
          cases h
          obtain ⟨r, h3, h4⟩ := fillA_ok hf hp h2
          refine ⟨.agg r, ?_, by rw [conc_agg_mk h4]⟩
          have hpl' := places_ok (P := P) (w := w) hT hpl
          simp only [bind_pure_comp] at hpl'
          simp only [Instr.build, Sem.run_bind, h1, Result.andThen_ok, run_und hT w hu, bind_pure_comp, hpl', Array.toList_map]
          have : (fun (x : Nat) => pl.toArray[x]?) = (fun (i : Nat) => pl[i]?) := by funext i; simp
          simp only [this, h3, Sem.run_pure]
        · cases h
      · cases h
    · rename_i len e hu
      split at h
      · rename_i n hn
        split at h
        · rename_i cs hf
          cases h
          obtain ⟨r, h3, h4⟩ := fillA_ok hf hp h2
          refine ⟨.agg r, ?_, by rw [conc_agg_mk h4]⟩
          simp only [Instr.build, Sem.run_bind, h1, Result.andThen_ok, run_und hT w hu, run_size hT w hn, Array.toList_map, h3, Sem.run_pure]
        · cases h
      · cases h
    · cases h
  · cases h
end
/-- A new row of cells. -/
theorem new_row {ν : Nu} {w : World} {l : List AV} {cs : Array Value} (elem : TypeId) (h : AV.concL ν l = some cs.toList) : Obj.Is ν { w with heap := w.heap.push (.cells cs elem) } (.cells l none) (.loc w.heap.size 0 0) := by
  refine .cells _ _ _ _ _ ⟨cs, elem, (0, 0), by simp, by have := concL_len h; simp at this; omega, ?_, by intro i _ _ hh; omega, fun sz hsz => by cases hsz⟩
  intro i v hv
  obtain ⟨x, hx, hc⟩ := concL_get h i v hv
  exact ⟨x, by simpa using hx, hc⟩
def rep (z : List AV) : Nat → List AV
  | 0 => []
  | n + 1 => z ++ rep z n
theorem rep_ok {ν : Nu} {z : List AV} {cs : Array Value} (hz : AV.concL ν z = some cs.toList) (n : Nat) : AV.concL ν (rep z n) = some ((Array.range (n * z.length)).map (cs[· % cs.size]!)).toList := by
  have hl : cs.size = z.length := by have := concL_len hz; simpa using this
  by_cases h0 : z.length = 0
  · have hz0 : z = [] := List.eq_nil_of_length_eq_zero h0
    subst hz0
    have : ∀ n, rep [] n = [] := by intro n; induction n with
      | zero => rfl
      | succ n ih => simpa [rep] using ih
    rw [this]; simp [concL_nil]
  · have key : ∀ n, AV.concL ν (rep z n) = some ((List.range (n * z.length)).map (fun i => cs[i % cs.size]!)) := by
      intro n
      induction n with
      | zero => simp [rep, concL_nil]
      | succ n ih =>
        rw [rep]
        have e : (List.range ((n + 1) * z.length)).map (fun i => cs[i % cs.size]!) = cs.toList ++ (List.range (n * z.length)).map (fun i => cs[i % cs.size]!) := by
          rw [Nat.succ_mul, Nat.add_comm, List.range_add, List.map_append, List.map_map]
          congr 1
          · apply List.ext_getElem?
            intro i
            by_cases hi : i < z.length
            · rw [List.getElem?_map, List.getElem?_range hi]
              simp only [Option.map_some, hl, Nat.mod_eq_of_lt hi]
              have hi' : i < cs.size := by omega
              simp [hi', getElem!_pos]
            · rw [List.getElem?_eq_none (by simp; omega), List.getElem?_eq_none (by simp; omega)]
          · apply List.map_congr_left
            intro i _
            simp [hl]
        rw [e]
        exact concL_append hz ih
    have := key n
    simpa using this
def fBuildSlice (T : Tr TypeInfo) (ev : Ev) (t : TypeId) (n : Nat) (ps : List (Nat × Operand)) : Option FR :=
  match undT T t, partsA ev ps with
  | some (.slice e), some l => match n, l with
   | 0, [] => match sizeT T e with | some _ => some (.new (.cells [] none) (.sl 0 0)) | none => none
   | _, _ => match sizeT T e, zeroL T e with
    | some (sz + 1), some z => match Nat.ble (n * (sz + 1)) 100000, Nat.beq z.length (sz + 1), n with
      | true, true, _ + 1 => match fillA (fun i => some (i * (sz + 1), sz + 1)) (rep z n) l with
        | some cs => some (.new (.cells cs none) (.sl n n))
        | none => none
      | _, _, _ => none
    | _, _ => none
  | _, _ => none
section
variable {P : Program} {T : Tr TypeInfo} (hT : TOk P T) {base : Nat} {ν : Nu} {σ : St} {w : World}
include hT
theorem fBuildSlice_ok {ev : Ev} {ρ : Operand → Value} (he : EvOk ν ev ρ) {t : TypeId} {n : Nat} {ps : Array (Nat × Operand)} {f : FR} (h : fBuildSlice T ev t n ps.toList = some f) : FS P ν w (do pure (.value (← Instr.buildSlice t n (ps.map fun (i, x) => (i, ρ x))))) f := by
  unfold fBuildSlice at h
  split at h
  · rename_i e l hu hl
    have hp := partsA_ok he hl
    split at h
    · split at h
      · rename_i sz hs
        cases h
        have hq : (ps.map fun (i, x) => (i, ρ x)) = #[] := by
          cases hq : ps.toList.map (fun (x : Nat × Operand) => (x.1, ρ x.2)) with
          | nil => apply Array.ext'; rw [Array.toList_map]; exact hq
          | cons a b => rw [hq] at hp; exact hp.elim
        refine ⟨.slice (some ⟨w.heap.size, 0, none⟩) 0 0, { w with heap := w.heap.push (.cells #[] e) }, .loc w.heap.size 0 0, ?_, .push _ _, ?_, new_row e (concL_nil ν), ?_⟩
        · rw [hq]
          simp [Instr.buildSlice, run_und hT w hu, run_size hT w hs, Instr.fill, newRow]
          have e0 : Array.range 0 = #[] := by apply Array.ext'; simp
          rw [e0]
          simp
        · intro b ν' _ hb
          unfold NK.av AV.conc
          rw [hb]
        · intro k s c hh _; cases hh; exact Nat.le_refl _
      · cases h
    split at h
    · rename_i sz z hs hz
      obtain ⟨zv, h1, h2⟩ := zeroL_ok (P := P) (w := w) (ν := ν) hT hz
      split at h
      · rename_i nn hbe h_0 hb
        split at h
        · rename_i cs hf
          cases h
          have hb : (nn + 1) * (sz + 1) ≤ 100000 := Nat.le_of_ble_eq_true hb
          have hbe := Nat.eq_of_beq_eq_true hbe
          have hr := rep_ok h2 (nn + 1)
          rw [hbe] at hr
          obtain ⟨r, h3, h4⟩ := fillA_ok hf hp hr
          refine ⟨.slice (some ⟨w.heap.size, 0, none⟩) (nn + 1) (nn + 1), { w with heap := w.heap.push (.cells r e) }, .loc w.heap.size 0 0, ?_, .push _ _, ?_, new_row e h4, ?_⟩
          · have g1 : ¬ (2 ^ 24 < (nn + 1) * (sz + 1)) := fun hh => absurd (Nat.lt_of_lt_of_le hh hb) (by decide)
            have g2 : ¬ ((nn + 1) * (sz + 1) = 0) := by simp
            simp only [Instr.buildSlice, Sem.run_bind, run_und hT w hu, Result.andThen_ok, run_size hT w hs, gt_iff_lt]
            rw [if_neg g1]
            simp only [pure_bind, Sem.run_bind]
            rw [if_neg g2]
            simp only [Sem.run_bind, h1, Result.andThen_ok, Sem.run_pure, Array.toList_map, h3, newRow, run_newObj]
          · intro b ν' _ hb
            unfold NK.av AV.conc
            rw [hb]
          · intro k s c hh _; cases hh; exact Nat.le_refl _
        · cases h
      · cases h
    · cases h
  · cases h
end
end Go.Proofs.YtdgjcjhicbgfaaaGreat
end
