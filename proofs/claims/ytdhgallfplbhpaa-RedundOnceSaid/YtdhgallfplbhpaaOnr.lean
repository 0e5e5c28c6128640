/- Rows that RedundOnce makes; its arguments. Conditions: plain lemmas. -/
import Derived.Test.YtdhgallfplbhpaaInto
import Derived.Test.YtdhgallfplbhpaaDec
namespace Go.Proofs.Ytdhgallfplbhpaa
open Go.RowKit Go.Proofs.YtdhgallfplbhpaaW.PrintWords
set_option linter.unusedVariables false
structure SntV where
  gap : Int
  net : Int
  late : Int
instance : Inhabited SntV := ⟨⟨0, 0, 0⟩⟩
def isSnt (o : SntV) (cs : List Value) : Prop := cs = [.int .i64 o.gap, .int .i64 o.net, .int .i64 o.late] ∧ (-9223372036854775808 ≤ o.gap ∧ o.gap ≤ 9223372036854775807)
theorem dec_snt {W : World} {cs : List Value} (h : Reads Try.prog W 33 cs) : ∃ y, isSnt y cs := by
  have hl := (reads_struct Try.underlying33 h).1
  rw [show Try.prog.cellsOf 33 = 3 from by kernel_rfl] at hl
  obtain ⟨a, h0, g0, g1⟩ := field_int Try.underlying33 h 0 _ rfl (by kernel_rfl) Try.underlying3
  obtain ⟨b, h1, _⟩ := field_int Try.underlying33 h 1 _ rfl (by kernel_rfl) Try.underlying3
  obtain ⟨c, h2, _⟩ := field_int Try.underlying33 h 2 _ rfl (by kernel_rfl) Try.underlying3
  exact ⟨⟨a, b, c⟩, list3 hl (one_cell h0) (one_cell h1) (one_cell h2), g0, g1⟩
theorem Sl.snts {w : World} {a : Option Addr} {len : Nat} {L : Nat → SntV} (h : Sl w a len 3 isSnt L) : ∀ k, k < len → ∃ b off, a = some ⟨b, off, none⟩ ∧ w.cell? ⟨b, off + k * 3, none⟩ = some (.int .i64 (L k).gap) ∧ w.cell? ⟨b, off + k * 3 + 1, none⟩ = some (.int .i64 (L k).net) ∧ w.cell? ⟨b, off + k * 3 + 2, none⟩ = some (.int .i64 (L k).late) := by
  intro k hk
  obtain ⟨b, off, ha, hx⟩ := h.2 (by omega)
  obtain ⟨cs, hl, ⟨rfl, _⟩, hc⟩ := hx k hk
  have c0 := hc 0 (by omega)
  have c1 := hc 1 (by omega)
  have c2 := hc 2 (by omega)
  simp at c0 c1 c2
  exact ⟨b, off, ha, c0, by rw [Nat.add_assoc]; exact c1, by rw [Nat.add_assoc]; exact c2⟩
/-- How far time has gone. -/
def gsum (L : Nat → SntV) : Nat → Int
  | 0 => 0
  | k + 1 => gsum L k + (L k).gap
def sndOf (L : Nat → SntV) : Snd := ⟨fun i => gsum L (i + 1), fun i => (L i).net, fun i => (L i).late⟩
def Valid (L : Nat → SntV) (skew : Int) (k : Nat) : Prop := ∀ j, j < k → (1 ≤ (L j).gap ∧ (L j).gap ≤ 1073741824) ∧ ((L j).net = 0 ∨ (L j).net = 1) ∧ (L j).late ≤ skew
theorem gsum_bound {L : Nat → SntV} {skew : Int} : ∀ {k : Nat}, Valid L skew k → 0 ≤ gsum L k ∧ gsum L k ≤ 1073741824 * k
  | 0, _ => by simp [gsum]
  | k + 1, h => by
    have ih := gsum_bound (k := k) fun j hj => h j (by omega)
    have := (h k (by omega)).1
    show 0 ≤ gsum L k + _ ∧ gsum L k + _ ≤ _
    omega
theorem gsum_mono {L : Nat → SntV} {skew : Int} {n : Nat} (h : Valid L skew n) : ∀ {i j : Nat}, i < j → j ≤ n → gsum L i < gsum L j := by
  intro i j hij hj
  induction j with
  | zero => omega
  | succ j ih =>
    have hg := (h j (by omega)).1
    show gsum L i < gsum L j + _
    by_cases hh : i = j
    · subst hh; omega
    · have := ih (by omega) (by omega)
      omega
theorem snd_ok {L : Nat → SntV} {skew : Int} {n : Nat} (h : Valid L skew n) (hn : n ≤ 100) : (sndOf L).ok skew n := by
  refine ⟨fun i j h1 h2 => gsum_mono h (by omega) (by omega), fun i hi => ?_, fun i hi => (h i hi).2.1, fun i hi => (h i hi).2.2⟩
  have := gsum_bound (k := i + 1) (fun j hj => h j (by omega) : Valid L skew (i + 1))
  show 0 ≤ gsum L (i + 1) ∧ gsum L (i + 1) ≤ _
  omega
def sqs : Nat → List Fr
  | 0 => [⟨0, 0, 0⟩]
  | k + 1 => sqs k ++ [⟨sq (k + 1), 0, 0⟩]
theorem sqs_len : ∀ k, (sqs k).length = k + 1
  | 0 => rfl
  | k + 1 => by simp [sqs, sqs_len k]
theorem sqs_get : ∀ {k i : Nat}, i ≤ k → (sqs k)[i]? = some ⟨sq i, 0, 0⟩
  | 0, i, h => by
    have : i = 0 := by omega
    subst this
    rfl
  | k + 1, i, h => by
    unfold sqs
    by_cases hi : i ≤ k
    · rw [List.getElem?_append_left (by rw [sqs_len]; omega)]
      exact sqs_get hi
    · have : i = k + 1 := by omega
      subst this
      rw [List.getElem?_append_right (by rw [sqs_len]; omega), sqs_len]
      simp
theorem sq_small {t : Nat} (h : t ≤ 255) : sq t = t := by
  unfold sq
  split
  · omega
  · omega
theorem evl_len (S : Snd) : ∀ k, (S.evl k).length ≤ 2 * k
  | 0 => by simp [Snd.evl]
  | k + 1 => by
    have := evl_len S k
    unfold Snd.evl
    split
    · rw [ins_length, ins_length]; omega
    · rw [ins_length]; omega
/-- The row of the first number. -/
theorem row_first (w : World) : Row KS w (w.alloc (.cells #[.int .i64 0] 3)) (.slice (some ⟨w.heap.size, 0, none⟩) 1 1) (sqs 0) := by
  refine ⟨(Below.refl _ _).alloc (Nat.le_refl _) _, ⟨rfl, .inr ⟨w.heap.size, 0, 1, #[.int .i64 0], rfl, Nat.zero_le _, heap_alloc_new w (.cells #[.int .i64 0] 3), Nat.le_refl _, by decide, rfl, rfl⟩⟩, fun b hb => ?_⟩
  have : w.heap.size = b := by simpa [Value.ownBlock] using hb
  omega
theorem Row.next {K : Kd} {w0 w w' : World} {v : Value} {l : List Fr} (h : Row K w0 w v l) (hb : Below w.heap.size w w') : Row K w0 w' v l :=
  ⟨below_then h.below h.below.size hb, q_move h.q fun k hk => hb.block k (q_lt h.q k hk), h.own⟩
/-- Both rows, and the filter that nobody has asked yet. -/
structure Ph1 (w w1 wr : World) (k : Int) (L : Nat → SntV) (n : Nat) (av sv : Value) : Prop where
  f : In w w1 w.heap.size (FS.fresh k) 0
  a : Row KC w1 wr av ((sndOf L).evl n)
  s : Row KS w1 wr sv (sqs n)
  v : Valid L k n
theorem Ph1.next {w w1 wr wr' : World} {k : Int} {L : Nat → SntV} {n : Nat} {av sv : Value} (h : Ph1 w w1 wr k L n av sv) (hb : Below wr.heap.size wr wr') : Ph1 w w1 wr' k L n av sv := ⟨h.f, h.a.next hb, h.s.next hb, h.v⟩
theorem Ph1.below {w w1 wr : World} {k : Int} {L : Nat → SntV} {n : Nat} {av sv : Value} (h : Ph1 w w1 wr k L n av sv) : Below w.heap.size w wr := below_then h.f.below h.f.below.size h.a.below
/-- Rows of two kinds lie apart. -/
theorem rows_apart {K K' : Kd} {w0 w : World} {v v' : Value} {l l' : List Fr} (h : Row K w0 w v l) (h' : Row K' w0 w v' l') (hE : K.E ≠ K'.E) : ∀ b, v.ownBlock = some b → v'.ownBlock ≠ some b := by
  intro b hb hb'
  obtain ⟨_, c1, e1⟩ := q_typed h.q b hb
  obtain ⟨_, c2, e2⟩ := q_typed h'.q b hb'
  rw [e1] at e2
  injection e2 with e2
  injection e2 with _ e2
  exact hE e2
/-- A row that is none of a filter's lies on when the filter turns. -/
theorem q_keep {w w' : World} {g : Nat} {s s' : FS} {E : TypeId} {sz n : Nat} {v : Value} {xs : List Value} (H : Held KI w g s) (hp : PutPost KI w g s' w') (hq : QRow w 0 E sz v n xs) (h1 : E ≠ 54) (h2 : E ≠ 60) : QRow w' 0 E sz v n xs := by
  refine q_move hq fun b hb => hp.2.upon.block b (q_lt hq b hb) fun hm => ?_
  obtain ⟨_, cells, hc⟩ := q_typed hq b hb
  obtain ⟨u, h3, h4⟩ := H
  unfold Blk at h3
  rcases (mine_of h3).1 hm with rfl | hv
  · rw [h3] at hc
    injection hc with hc
    injection hc with _ hc
    exact h1 hc.symm
  · obtain ⟨_, c2, e2⟩ := q_typed h4 b hv
    rw [e2] at hc
    injection hc with hc
    injection hc with _ hc
    exact h2 hc.symm
/-- So many events have come. -/
structure Ph2 (w wr : World) (k : Int) (S : Snd) (n : Nat) (evs : List Fr) (av sv : Value) (p mm : Nat) (C : Nat → Prop) (t : Int) (s : FS) : Prop where
  i : In w wr w.heap.size s p
  qa : QRow wr 0 36 3 av evs.length (KC.encs evs)
  qs : QRow wr 0 3 1 sv (sqs n).length (KS.encs (sqs n))
  o : OSt S k s mm C t
  e : Okk S n n mm C t (evs.drop p)
  m : mm ≤ n
def PhAny (w wr : World) (k : Int) (S : Snd) (n : Nat) (evs : List Fr) (av sv : Value) (p m : Nat) : Prop := ∃ C t s, Ph2 w wr k S n evs av sv p m C t s
theorem ph2_start {w w1 wr : World} {k : Int} {L : Nat → SntV} {n : Nat} {av sv : Value} (h : Ph1 w w1 wr k L n av sv) (hn : n ≤ 100) : PhAny w wr k (sndOf L) n ((sndOf L).evl n) av sv 0 0 :=
  ⟨_, _, _, h.f.next h.a.below, h.a.q, h.s.q, ost_fresh _ k, okk_all (snd_ok h.v hn), Nat.zero_le _⟩
theorem come_read {w : World} {A : Option Addr} {c : Nat} {evs : List Fr} (h : QRow w 0 36 3 (.slice A evs.length c) evs.length (KC.encs evs)) {p : Nat} {e : Fr} (he : evs[p]? = some e) :
    ∃ b off, A = some ⟨b, off, none⟩ ∧ w.cell? ⟨b, off + p * 3, none⟩ = some (.int .i64 e.tick) ∧ w.cell? ⟨b, off + p * 3 + 1, none⟩ = some (.int .i64 e.seq) ∧ w.cell? ⟨b, off + p * 3 + 2, none⟩ = some (.int .i64 e.nets) := by
  have hp := (List.getElem?_eq_some_iff.1 he).1
  obtain ⟨b, off, cc, hv, _, hr⟩ := q_form h (by omega)
  injection hv with hv _ _
  exact ⟨b, off, hv, hr (p * 3) _ (encs_get (K := KC) evs p e he 0 (by decide)), by rw [Nat.add_assoc]; exact hr (p * 3 + 1) _ (encs_get (K := KC) evs p e he 1 (by decide)), by rw [Nat.add_assoc]; exact hr (p * 3 + 2) _ (encs_get (K := KC) evs p e he 2 (by decide))⟩
theorem num_read {w : World} {A : Option Addr} {c n N : Nat} (h : QRow w 0 3 1 (.slice A N c) (sqs n).length (KS.encs (sqs n))) {j : Nat} (hj : j ≤ n) (hn : n ≤ 255) :
    ∃ b off, A = some ⟨b, off, none⟩ ∧ w.cell? ⟨b, off + j, none⟩ = some (.int .i64 j) := by
  obtain ⟨b, off, cc, hv, _, hr⟩ := q_form h (by rw [sqs_len]; omega)
  injection hv with hv _ _
  have := hr (j * 1) _ (encs_get (K := KS) (sqs n) j _ (sqs_get hj) 0 (by decide))
  rw [Nat.mul_one] at this
  refine ⟨b, off, hv, ?_⟩
  rw [← sq_small (by omega : j ≤ 255)]
  exact this
theorem come_keep {w : World} {b off b9 o9 c c9 n N j p : Nat} {evs : List Fr} {e : Fr} (h : QRow w 0 36 3 (.slice (some ⟨b, off, none⟩) evs.length c) evs.length (KC.encs evs)) (he : evs[p]? = some e) (hs : QRow w 0 3 1 (.slice (some ⟨b9, o9, none⟩) N c9) (sqs n).length (KS.encs (sqs n))) (hj : j ≤ n) (hn : n ≤ 255) :
    w.cell? ⟨b, off + p * 3, none⟩ = some (.int .i64 e.tick) ∧ w.cell? ⟨b, off + p * 3 + 1, none⟩ = some (.int .i64 e.seq) ∧ w.cell? ⟨b, off + p * 3 + 2, none⟩ = some (.int .i64 e.nets) ∧ w.cell? ⟨b9, o9 + j, none⟩ = some (.int .i64 j) := by
  obtain ⟨b', off', h1, h2, h3, h4⟩ := come_read h he
  injection h1 with h1
  injection h1 with h1 h1'
  subst h1; subst h1'
  obtain ⟨b', off', k1, k2⟩ := num_read hs hj hn
  injection k1 with k1
  injection k1 with k1 k1'
  subst k1; subst k1'
  exact ⟨h2, h3, h4, k2⟩
theorem Ph2.drewN {w wr : World} {k : Int} {S : Snd} {n : Nat} {evs : List Fr} {av sv : Value} {p m : Nat} {C : Nat → Prop} {t : Int} {s : FS} (h : Ph2 w wr k S n evs av sv p m C t s) (x : Nat) : Ph2 w (wr.drewN x) k S n evs av sv p m C t s :=
  ⟨h.i.drewN x, q_move h.qa fun k _ => rfl, q_move h.qs fun k _ => rfl, h.o, h.e, h.m⟩
end Go.Proofs.Ytdhgallfplbhpaa
