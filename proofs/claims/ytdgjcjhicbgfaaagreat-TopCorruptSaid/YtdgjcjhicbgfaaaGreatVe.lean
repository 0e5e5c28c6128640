/- A frame taken on one network: what stands ahead of it and behind it, with blocks of the caller's own beside. Conditions: that the machine's calls are the program's. -/
import Derived.Test.YtdgjcjhicbgfaaaGreatVc
import Derived.Test.YtdgjcjhicbgfaaaGreatVd
import Derived.Test.YtdgjcjhicbgfaaaGreatMa
set_option linter.unusedVariables false
set_option linter.unusedSimpArgs false
set_option linter.unusedSimpArgs false
set_option linter.unusedVariables false
namespace Go.Proofs.YtdgjcjhicbgfaaaGreat
open Go.RowKit Go.Lib

def isStr (s : ByteArray) (cs : List Value) : Prop := cs = [.string s] ∧ s.size ≤ maxLen
theorem Sl.strs {w : World} {a : Option Addr} {len : Nat} {L : Nat → ByteArray} (h : Sl w a len 1 isStr L) : ∀ k, k < len → ∃ b off, a = some ⟨b, off, none⟩ ∧ w.cell? ⟨b, off + k, none⟩ = some (.string (L k)) := by
  intro k hk
  obtain ⟨b, off, ha, hx⟩ := h.2 (by omega)
  obtain ⟨cs, hl, ⟨rfl, h1⟩, hc⟩ := hx k hk
  have := hc 0 (by omega)
  simp at this
  exact ⟨b, off, ha, this⟩
theorem dec_str {P : Program} {W : World} {t : TypeId} {cs : List Value} (ht : P.underlying t = some .string) (h : Reads P W t cs) : ∃ s, isStr s cs := reads_string ht h
/-- The messages ahead of a frame, but for the one of the number x. -/
def gsOf (L : Nat → ByteArray) (x j : Nat) : List ByteArray := ((List.range j).filter fun i => !Nat.beq i x).map L
theorem gsOf_zero (L : Nat → ByteArray) (x : Nat) : gsOf L x 0 = [] := rfl
theorem gsOf_bad (L : Nat → ByteArray) (x : Nat) : gsOf L x (x + 1) = gsOf L x x := by
  unfold gsOf
  rw [List.range_succ, List.filter_append, List.map_append]
  simp
theorem gsOf_good (L : Nat → ByteArray) {x j : Nat} (h : j ≠ x) : gsOf L x (j + 1) = gsOf L x j ++ [L j] := by
  unfold gsOf
  rw [List.range_succ, List.filter_append, List.map_append]
  have : Nat.beq j x = false := by
    cases hq : Nat.beq j x with
    | false => rfl
    | true => exact (h (Nat.eq_of_beq_eq_true hq)).elim
  simp [this]
theorem gsOf_len (L : Nat → ByteArray) (x j : Nat) : (gsOf L x j).length ≤ j := by
  unfold gsOf
  rw [List.length_map]
  exact Nat.le_trans (List.length_filter_le _ _) (by simp)
theorem gsOf_prefix (L : Nat → ByteArray) (x a : Nat) : ∀ d, ∃ r, gsOf L x (a + d) = gsOf L x a ++ r
  | 0 => ⟨[], by simp⟩
  | d + 1 => by
    obtain ⟨r, hr⟩ := gsOf_prefix L x a d
    by_cases h : a + d = x
    · subst h
      exact ⟨r, (gsOf_bad L (a + d)).trans hr⟩
    · exact ⟨r ++ [L (a + d)], by rw [show a + (d + 1) = a + d + 1 by omega, gsOf_good L h, hr, List.append_assoc]⟩
theorem gsOf_at (L : Nat → ByteArray) {x c j : Nat} (hc : c < j) (hx : c ≠ x) : (gsOf L x j)[(gsOf L x c).length]? = some (L c) := by
  obtain ⟨r, hr⟩ := gsOf_prefix L x (c + 1) (j - (c + 1))
  rw [show c + 1 + (j - (c + 1)) = j by omega, gsOf_good L hx, List.append_assoc] at hr
  rw [hr]
  simp
/-- Which frame is changed: none is 10. -/
theorem which_one (fr tn : Int) (n : Nat) (hn : n ≤ 10) : ∃ x : Nat, x ≤ 10 ∧ ∀ j, j < n → (j = x ↔ ((j : Int) = fr ∧ tn ≠ 0)) := by
  by_cases h : (0 ≤ fr ∧ fr < n) ∧ tn ≠ 0
  · refine ⟨fr.toNat, by omega, fun j hj => ⟨fun he => ⟨by omega, h.2⟩, fun he => by omega⟩⟩
  · refine ⟨10, by omega, fun j hj => ⟨fun he => by omega, fun he => (h ⟨⟨by omega, by omega⟩, he.2⟩).elim⟩⟩
theorem TopAt.ovLt {R : (Nat → Prop) → World → Prop} {B : Nat} {ov gv : Value} {n : Nat} {Z : Nat → Int} {TA TB : Nat → ByteArray} {gs : List ByteArray} {w : World} (h : TopAt R B ov n Z TA TB gs gv w) {k : Nat} (hk : ov.ownBlock = some k) : k < w.heap.size := by
  obtain ⟨L, h1, h2, h3, h4, h5, h6⟩ := h.out
  rcases h3 with ⟨_, rfl⟩ | ⟨k', off, c, rfl, _, hlt, _⟩
  · cases hk
  · cases hk; exact hlt
/-- The same, and blocks K that are nobody's. -/
structure TopK (R : (Nat → Prop) → World → Prop) (B : Nat) (ov : Value) (n : Nat) (Z : Nat → Int) (TA TB : Nat → ByteArray) (gs : List ByteArray) (gv : Value) (K : Nat → Prop) (w : World) : Prop where
  mk :: (out : ∃ L : Nat → Prop, R L w ∧ (∀ i, L i → B ≤ i) ∧ OutC w ov n Z TA TB L ∧ Got w gs gv ∧ B ≤ w.heap.size ∧ (∀ g, gv.ownBlock = some g → ¬ L g ∧ ov.ownBlock ≠ some g ∧ B ≤ g) ∧ ∀ k, K k → B ≤ k ∧ ¬ L k ∧ gv.ownBlock ≠ some k ∧ ov.ownBlock ≠ some k)
section
variable {R R' : (Nat → Prop) → World → Prop} {B : Nat} {ov gv : Value} {n : Nat} {Z : Nat → Int} {TA TB : Nat → ByteArray} {gs : List ByteArray} {w w' : World} {K : Nat → Prop}
theorem TopK.top (h : TopK R B ov n Z TA TB gs gv K w) : TopAt R B ov n Z TA TB gs gv w := by
  obtain ⟨L, h1, h2, h3, h4, h5, h6, h7⟩ := h.out
  exact ⟨L, h1, h2, h3, h4, h5, h6⟩
/-- What is new since is nobody's. -/
theorem TopAt.since (hR : Bears R) (h : TopAt R B ov n Z TA TB gs gv w) (hb : Below w.heap.size w w') : TopK R B ov n Z TA TB gs gv (fun k => w.heap.size ≤ k) w' := by
  obtain ⟨L, h1, h2, h3, h4, h5, h6⟩ := h.out
  have hn := hR.narrow L (fun j => L j ∧ j < w.heap.size) w h1 fun j hj hl => ⟨hj, hl⟩
  have hov : ∀ k, ov.ownBlock = some k → k < w.heap.size := fun k hk => h.ovLt hk
  refine ⟨fun j => L j ∧ j < w.heap.size, hR.upon _ (fun _ => False) w w' hn (Upon.of_below hb) (fun _ _ h => h), fun i hi => h2 i hi.1, h3.keep (fun k hk _ _ => hb.block k hk) hb.size (fun k _ h hh => h hh.1), h4.keep fun g hg => hb.block g (h4.lt hg), Nat.le_trans h5 hb.size, fun g hg => ⟨fun hh => (h6 g hg).1 hh.1, (h6 g hg).2⟩, fun k hk => ⟨Nat.le_trans h5 hk, fun hh => Nat.lt_irrefl _ (Nat.lt_of_lt_of_le hh.2 hk), fun hh => Nat.lt_irrefl _ (Nat.lt_of_lt_of_le (h4.lt hh) hk), fun hh => Nat.lt_irrefl _ (Nat.lt_of_lt_of_le (hov k hh) hk)⟩⟩
/-- What turns those blocks, and new ones, turns nothing of it. -/
theorem TopK.upon (hR : Bears R) (h : TopK R B ov n Z TA TB gs gv K w) (hu : Upon K w w') : TopK R B ov n Z TA TB gs gv K w' := by
  obtain ⟨L, h1, h2, h3, h4, h5, h6, h7⟩ := h.out
  refine ⟨L, hR.upon L K w w' h1 hu (fun j hj hk => (h7 j hk).2.1 hj), h2, h3.keep (fun k hk hn ho => hu.block k hk (fun hh => (h7 k hh).2.2.2 ho)) hu.size (fun k _ h => h), h4.keep fun g hg => hu.block g (h4.lt hg) (fun hh => (h7 g hh).2.2.1 hg), Nat.le_trans h5 hu.size, h6, h7⟩
/-- The receiver's own step: those blocks that there were stand. -/
theorem TopK.step (h : TopK R B ov n Z TA TB gs gv K w) {f : FuncId} {args : Array Value} {Q : Ending → Prop}
    (hcall : ∀ L : Nat → Prop, R L w → Calls Tryz.prog f args w fun e w' => Q e ∧ R' (grown L w) w' ∧ Upon L w w' ∧ Below B w w') :
    Calls Tryz.prog f args w fun e w' => Q e ∧ TopK R' B ov n Z TA TB gs gv (fun k => K k ∧ k < w.heap.size) w' ∧ (∀ k, K k → k < w.heap.size → w'.heap[k]? = w.heap[k]?) ∧ Below B w w' := by
  obtain ⟨L, h1, h2, h3, h4, h5, h6, h7⟩ := h.out
  refine (hcall L h1).mono ?_
  rintro e w' ⟨hq, hr, hu, hb⟩
  refine ⟨hq, ⟨grown L w, hr, ?_, ?_, ?_, Nat.le_trans h5 hb.size, ?_, ?_⟩, ?_, hb⟩
  · rintro i (hi | hi)
    · exact h2 i hi
    · omega
  · refine h3.keep (fun k hk hn _ => hu.block k hk hn) hu.size ?_
    rintro k hk hn (h | h)
    · exact hn h
    · omega
  · exact h4.keep fun g hg => hu.block g (h4.lt hg) (h6 g hg).1
  · intro g hg
    obtain ⟨p1, p2, p3⟩ := h6 g hg
    refine ⟨?_, p2, p3⟩
    rintro (h | h)
    · exact p1 h
    · have := h4.lt hg; omega
  · rintro k ⟨hk, hlt⟩
    obtain ⟨p1, p2, p3, p4⟩ := h7 k hk
    refine ⟨p1, ?_, p3, p4⟩
    rintro (h | h)
    · exact p2 h
    · omega
  · exact fun k hk hlt => hu.block k hlt (h7 k hk).2.1
end
/-- What has gone, cell by cell. -/
theorem TopAt.cells {R : (Nat → Prop) → World → Prop} {B : Nat} {A0 : Option Addr} {cap0 : Nat} {gv : Value} {n : Nat} {Z : Nat → Int} {TA TB : Nat → ByteArray} {gs : List ByteArray} {w : World} (h : TopAt R B (.slice A0 n cap0) n Z TA TB gs gv w) {j : Nat} (hj : j < n) :
    ∃ k off, A0 = some ⟨k, off, none⟩ ∧ w.cell? ⟨k, off + j * 5 + 2, none⟩ = some (.int .i64 (Z j + (12500 * (j : Int) + 20))) ∧ w.cell? ⟨k, off + j * 5 + 3, none⟩ = some (.string (TA j)) ∧ w.cell? ⟨k, off + j * 5 + 4, none⟩ = some (.string (TB j)) := by
  obtain ⟨L, h1, h2, h3, h4, h5, h6⟩ := h.out
  rcases h3 with ⟨h7, _⟩ | ⟨k, off, c, h7, h8, h9, h10⟩
  · omega
  · injection h7 with h7
    obtain ⟨h11, h12, h13⟩ := h10 j hj
    rw [← Nat.add_assoc] at h11 h12 h13
    exact ⟨k, off, h7, h11, h12, h13⟩
/-- Which byte is changed. -/
def atOf (h0 : Int) (n : Nat) : Nat := ((h0.tmod n + n).tmod n).toNat
theorem atOf_val (h0 : Int) {n : Nat} (hn : 0 < n) : (h0.tmod n + n).tmod n = (atOf h0 n : Int) ∧ atOf h0 n < n := by
  have h1 : -(n : Int) < h0.tmod n := by
    have := Int.lt_tmod_of_pos h0 (b := (n : Int)) (by omega)
    omega
  have h2 : 0 ≤ (h0.tmod n + n).tmod n := Int.tmod_nonneg _ (by omega)
  have h3 : (h0.tmod n + n).tmod n < n := Int.tmod_lt_of_pos _ (by omega)
  unfold atOf
  omega
def chgd (h0 : Int) (t : UInt8) (a : ByteArray) : ByteArray := ⟨(a.data.toList.set (atOf h0 a.size) (a.data.toList.getD (atOf h0 a.size) 0 ^^^ t)).toArray⟩
theorem Sealed.chgd {a : ByteArray} (h : Sealed a) (h0 : Int) {t : UInt8} (ht : t ≠ 0) : BadT (chgd h0 t a) := by
  obtain ⟨l, h1, h2, h3⟩ := h.out
  have hlt := (atOf_val h0 (n := a.size) (by omega)).2
  have hx : a.data.toList[atOf h0 a.size]? = some (a.data.toList.getD (atOf h0 a.size) 0) := by
    rw [List.getD_eq_getElem?_getD, List.getElem?_eq_getElem (by rw [str_len]; exact hlt)]
    rfl
  exact h.bad hx ht
/-- The text that is taken: changed or not. -/
def sent (j x : Nat) (h0 : Int) (t : UInt8) (a : ByteArray) : ByteArray := if j = x then chgd h0 t a else a
theorem sent_bad {j x : Nat} {h0 : Int} {t : UInt8} {a : ByteArray} (h : j = x) : sent j x h0 t a = chgd h0 t a := if_pos h
theorem sent_good {j x : Nat} {h0 : Int} {t : UInt8} {a : ByteArray} (h : j ≠ x) : sent j x h0 t a = a := if_neg h
/-- What stands inside the pair of takes, side by side. -/
structure InAt (base x j : Nat) (rv ov : Value) (n : Nat) (Z : Nat → Int) (TA TB L : Nat → ByteArray) (h0 : Int) (t : UInt8) (s : Nat) (g : Value) (w : World) : Prop where
  mk :: (out : (s = 0 ∧ TopAt (fun L w => RecvAt base x j rv L w) base ov n Z TA TB (gsOf L x j) g w) ∨
    (s = 1 ∧ TopAt (fun V w => Mid base x j rv (Z j) (L j) (sent j x h0 t (TB j)) V w) base ov n Z TA TB (gsOf L x (j + 1)) g w) ∨
    (s = 2 ∧ TopAt (fun L w => RecvAt base x (j + 1) rv L w) base ov n Z TA TB (gsOf L x (j + 1)) g w))
theorem InAt.zero {base x j : Nat} {rv ov : Value} {n : Nat} {Z : Nat → Int} {TA TB L : Nat → ByteArray} {h0 : Int} {t : UInt8} {g : Value} {w : World} (h : InAt base x j rv ov n Z TA TB L h0 t 0 g w) : TopAt (fun L w => RecvAt base x j rv L w) base ov n Z TA TB (gsOf L x j) g w := by
  rcases h.out with ⟨_, h⟩ | ⟨h, _⟩ | ⟨h, _⟩
  · exact h
  · cases h
  · cases h
theorem InAt.one {base x j : Nat} {rv ov : Value} {n : Nat} {Z : Nat → Int} {TA TB L : Nat → ByteArray} {h0 : Int} {t : UInt8} {g : Value} {w : World} (h : InAt base x j rv ov n Z TA TB L h0 t 1 g w) : TopAt (fun V w => Mid base x j rv (Z j) (L j) (sent j x h0 t (TB j)) V w) base ov n Z TA TB (gsOf L x (j + 1)) g w := by
  rcases h.out with ⟨h, _⟩ | ⟨_, h⟩ | ⟨h, _⟩
  · cases h
  · exact h
  · cases h
theorem InAt.two {base x j : Nat} {rv ov : Value} {n : Nat} {Z : Nat → Int} {TA TB L : Nat → ByteArray} {h0 : Int} {t : UInt8} {g : Value} {w : World} (h : InAt base x j rv ov n Z TA TB L h0 t 2 g w) : TopAt (fun L w => RecvAt base x (j + 1) rv L w) base ov n Z TA TB (gsOf L x (j + 1)) g w := by
  rcases h.out with ⟨h, _⟩ | ⟨h, _⟩ | ⟨_, h⟩
  · cases h
  · cases h
  · exact h
/-- A text as bytes, in a row of its own. -/
theorem conv_text (s : ByteArray) (w : World) : ∃ n g q w', n = s.size ∧ (convert 9 45 (.string s)).run Tryz.prog w = .ok (.slice (some ⟨g, 0, none⟩) n q) w' ∧ Below w.heap.size w w' ∧ Bf w' w.heap.size s.data.toList (.slice (some ⟨g, 0, none⟩) n q) := by
  obtain ⟨v, w', h1, h2, h3⟩ := conv_bf s.data.toList w
  rw [strOf_self] at h1
  obtain ⟨g, cap, cs, fr, rfl, h4⟩ := h3.out
  rw [str_len] at h1 h3
  exact ⟨_, g, cap, w', rfl, h1, h2, h3⟩
/-- The byte that is changed, where it lies. -/
theorem chg_at {w : World} {B n g q : Nat} {a : ByteArray} (h : Bf w B a.data.toList (.slice (some ⟨g, 0, none⟩) n q)) (hn : n = a.size) (h0 : Int) (hp : 0 < n) (t : UInt8) (hh0 : -9223372036854775808 ≤ h0 ∧ h0 ≤ 9223372036854775807) (hl : n ≤ 147) :
    ∃ (at_ : Nat) (c : UInt8), (wrap64 (h0.tmod n + n)).tmod n = (at_ : Int) ∧ at_ < n ∧ w.cell? ⟨g, at_, none⟩ = some (.int .u8 (c.toNat : Int)) ∧ w.frozen? ⟨g, at_, none⟩ = false ∧
      Bf (w.setCell ⟨g, at_, none⟩ (.int .u8 (Go.bits .xor .u8 (c.toNat : Int) (t.toNat : Int)))) B (chgd h0 t a).data.toList (.slice (some ⟨g, 0, none⟩) n q) ∧ Below B w (w.setCell ⟨g, at_, none⟩ (.int .u8 (Go.bits .xor .u8 (c.toNat : Int) (t.toNat : Int)))) := by
  subst hn
  obtain ⟨h1, h2⟩ := atOf_val h0 hp
  have hlt : atOf h0 a.size < a.data.toList.length := by rw [str_len]; exact h2
  have hw : wrap64 (h0.tmod a.size + a.size) = h0.tmod a.size + a.size := by
    have h3 := Int.lt_tmod_of_pos h0 (b := (a.size : Int)) (by omega)
    have h4 := Int.tmod_lt_of_pos h0 (b := (a.size : Int)) (by omega)
    exact IntWalk.wrap64_in _ (by omega)
  have hs := h.set (atOf h0 a.size) (a.data.toList.getD (atOf h0 a.size) 0 ^^^ t)
  refine ⟨atOf h0 a.size, a.data.toList.getD (atOf h0 a.size) 0, by rw [hw]; exact h1, h2, ?_, h.frozen hlt, ?_, ?_⟩
  · obtain ⟨g', cap, he, _, hc⟩ := h.cell
    cases he
    refine hc _ _ ?_
    rw [List.getD_eq_getElem?_getD, List.getElem?_eq_getElem hlt]
    rfl
  · rw [xor_u8]
    exact hs.1
  · rw [xor_u8]
    exact hs.2
/-- A row of bytes as a text again, wherever the row stands. -/
theorem conv_sent {w : World} {B n g q : Nat} {a : ByteArray} (h : Bf w B a.data.toList (.slice (some ⟨g, 0, none⟩) n q)) {V : World} (hb : Below w.heap.size w V) : (convert 45 9 (.slice (some ⟨g, 0, none⟩) n q)).run Tryz.prog V = .ok (.string a) V := conv_back (h.keep hb)
section
variable {base x j : Nat} {rv ov g : Value} {n : Nat} {Z : Nat → Int} {TA TB : Nat → ByteArray} {gs : List ByteArray} {w w1 : World} {z tk h0 : Int} {t : UInt8} {s ta tb : ByteArray}
theorem in_take0 (hC : COk C1) (h : TopAt (fun L w => RecvAt base x j rv L w) base ov n Z TA TB gs g w) (hx : x ≤ 10) (hj : j < 10) (hz : 64 ≤ z ∧ z ≤ 147) (hw : Whole j s ta tb) (ht : j = x → t ≠ 0) (hb : Below w.heap.size w w1) (htk : tk = z + (12500 * (j : Int) + 20)) :
    Calls Tryz.prog 10 #[rv, .int .i64 tk, .int .i64 0, .string (sent j x h0 t ta)] w1 fun e w' => Answers (!Nat.beq j x) s e ∧ TopK (fun V w => Mid base x j rv z s (sent j x h0 t tb) V w) base ov n Z TA TB gs g (fun k => w.heap.size ≤ k ∧ k < w1.heap.size) w' ∧ (∀ k, w.heap.size ≤ k → k < w1.heap.size → w'.heap[k]? = w1.heap[k]?) ∧ Below base w1 w' := by
  have e : tk = z + (12500 * (j : Int) + 20 + (0 : Nat)) := by rw [htk]; simp
  rw [e]
  refine (h.since bears_recv hb).step (Q := Answers (!Nat.beq j x) s) (R' := fun V w => Mid base x j rv z s (sent j x h0 t tb) V w) fun L hL => ?_
  have hs := hw.sealed
  refine take0 hC hL hx hj hz (fun hne => ?_) (fun he => ?_)
  · rw [sent_good hne, sent_good hne]; exact hw
  · rw [sent_bad he, sent_bad he]; exact ⟨hs.1.chgd h0 (ht he), hs.2.chgd h0 (ht he)⟩
theorem in_take1 (hC : COk C1) (h : TopAt (fun V w => Mid base x j rv z s (sent j x h0 t tb) V w) base ov n Z TA TB gs g w) (hb : Below w.heap.size w w1) (htk : tk = z + (12500 * (j : Int) + 20) + 1) :
    Calls Tryz.prog 10 #[rv, .int .i64 tk, .int .i64 1, .string (sent j x h0 t tb)] w1 fun e w' => Answers false s e ∧ TopK (fun L w => RecvAt base x (j + 1) rv L w) base ov n Z TA TB gs g (fun k => w.heap.size ≤ k ∧ k < w1.heap.size) w' ∧ (∀ k, w.heap.size ≤ k → k < w1.heap.size → w'.heap[k]? = w1.heap[k]?) ∧ Below base w1 w' := by
  have e : tk = z + (12500 * (j : Int) + 20 + (1 : Nat)) := by rw [htk]; simp; omega
  rw [e]
  refine (h.since bears_mid hb).step (Q := Answers false s) (R' := fun L w => RecvAt base x (j + 1) rv L w) fun L hL => ?_
  exact take1 hC hL
end
section
variable {R : (Nat → Prop) → World → Prop} {B : Nat} {ov gv : Value} {n : Nat} {Z : Nat → Int} {TA TB : Nat → ByteArray} {gs : List ByteArray} {w0 w2 : World} {K : Nat → Prop} {p q : Int} {d : ByteArray}
/-- What a Take answers, put into a block made behind it. -/
theorem took_new (hR : Bears R) (h : TopK R B ov n Z TA TB gs gv K w2) (hb : Below B w0 w2) :
    TopAt R B ov n Z TA TB gs gv (w2.alloc (.cells #[.int .i64 p, .int .i64 q, .string d] 50)) ∧ (w2.alloc (.cells #[.int .i64 p, .int .i64 q, .string d] 50)).cell? ⟨w2.heap.size, 2, none⟩ = some (.string d) ∧ Below B w0 (w2.alloc (.cells #[.int .i64 p, .int .i64 q, .string d] 50)) := by
  have hB : B ≤ w2.heap.size := by
    obtain ⟨L, _, _, _, _, h5, _⟩ := h.out
    exact h5
  exact ⟨h.top.grow hR ((Below.refl _ _).alloc (Nat.le_refl _) _), (Blk.new _ _ _).cell 2, hb.alloc hB _⟩
/-- .. into a block made ahead of it. -/
theorem took_old (hR : Bears R) (h : TopK R B ov n Z TA TB gs gv K w2) (hb : Below B w0 w2) {z : Nat} (hz : K z) (hk : Blk w2 z 50 #[.int .i64 0, .int .i64 0, .string ⟨#[]⟩]) :
    TopAt R B ov n Z TA TB gs gv (((w2.setCell ⟨z, 0, none⟩ (.int .i64 p)).setCell ⟨z, 1, none⟩ (.int .i64 q)).setCell ⟨z, 2, none⟩ (.string d)) ∧ (((w2.setCell ⟨z, 0, none⟩ (.int .i64 p)).setCell ⟨z, 1, none⟩ (.int .i64 q)).setCell ⟨z, 2, none⟩ (.string d)).cell? ⟨z, 2, none⟩ = some (.string d) ∧ Below B w0 (((w2.setCell ⟨z, 0, none⟩ (.int .i64 p)).setCell ⟨z, 1, none⟩ (.int .i64 q)).setCell ⟨z, 2, none⟩ (.string d)) := by
  have hBz : B ≤ z := by
    obtain ⟨L, _, _, _, _, _, _, h7⟩ := h.out
    exact (h7 z hz).1
  have hB : B ≤ w2.heap.size := by
    obtain ⟨L, _, _, _, _, h5, _⟩ := h.out
    exact h5
  refine ⟨(h.upon hR ((((Upon.refl K w2).setg hz 0 _).setg hz 1 _).setg hz 2 _)).top, (((hk.set 0 _).set 1 _).set 2 _).cell 2, hb.trans ?_⟩
  exact ((((Upon.refl (· = z) w2).setg rfl 0 _).setg rfl 1 _).setg rfl 2 _).below hB (fun i hi => by subst hi; exact hBz)
end
theorem TopAt.grew {R : (Nat → Prop) → World → Prop} {B : Nat} {ov gv gv' : Value} {n : Nat} {Z : Nat → Int} {TA TB : Nat → ByteArray} {gs : List ByteArray} {w w' : World} (h : TopAt R B ov n Z TA TB gs gv w) (hw : Grew w w' gv gv') : Below B w w' := by
  obtain ⟨L, _, _, _, _, h5, h6⟩ := h.out
  exact hw.upon.below h5 (fun i hi => (h6 i hi).2.2)
theorem TopAt.got {R : (Nat → Prop) → World → Prop} {B : Nat} {ov gv : Value} {n : Nat} {Z : Nat → Int} {TA TB : Nat → ByteArray} {gs : List ByteArray} {w : World} (h : TopAt R B ov n Z TA TB gs gv w) : Got w gs gv := by
  obtain ⟨L, _, _, _, h4, _⟩ := h.out
  exact h4
theorem not_beq {j x : Nat} {b : Bool} (h : b = !Nat.beq j x) : (b = true → j ≠ x) ∧ (b = false → j = x) := by
  subst h
  refine ⟨fun h e => ?_, fun h => ?_⟩
  · subst e
    rw [show Nat.beq j j = true from Nat.beq_refl j] at h
    cases h
  · have : Nat.beq j x = true := by simpa using h
    exact Nat.eq_of_beq_eq_true this
end Go.Proofs.YtdgjcjhicbgfaaaGreat
