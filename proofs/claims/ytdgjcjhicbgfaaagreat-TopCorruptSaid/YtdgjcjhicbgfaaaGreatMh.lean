/- A datagram made and read. Conditions: those of each lemma, none else. -/
import Derived.Test.YtdgjcjhicbgfaaaGreatMg
import Derived.Test.YtdgjcjhicbgfaaaGreatMa
set_option linter.unusedVariables false
set_option linter.unusedSimpArgs false

/- A datagram made and read. Conditions: the text is short, the ends those of this program. -/
section
namespace Go.Proofs.YtdgjcjhicbgfaaaGreat
open Go.RowKit Go.Lib
set_option linter.unusedVariables false
set_option linter.unusedSimpArgs false
set_option maxRecDepth 20000

theorem udpSum_lt (l : List UInt8) : udpSum l < 65536 := by
  unfold udpSum onesB
  simp only
  split <;> omega
theorem usum_lit (s : ByteArray) (w : World) (hl : s.size ≤ 4000) : Calls Tryz.prog 100 #[.agg #[.int .u8 10, .int .u8 0, .int .u8 0, .int .u8 0], .agg #[.int .u8 224, .int .u8 224, .int .u8 0, .int .u8 10], .string s] w fun e w' => e = .returned (.int .i64 (udpSum s.data.toList)) ∧ Below w.heap.size w w' :=
  usum_calls s w hl
theorem Wr.keep {B p : Nat} {bs : List UInt8} {w w' : World} (h : Wr B p bs w) (hb : Below w.heap.size w w') : Wr B p bs w' := by
  obtain ⟨v, h1, h2, h3, h4⟩ := h.out
  refine ⟨v, (hb.block p h1.lt).trans h1, h2.kept (row := none) ⟨hb.os, hb.tape, hb.output, hb.size, fun k hk _ => hb.block k hk⟩ ?_, h3, h4⟩
  cases v.ownBlock <;> simp
theorem WrAt.keep {B p : Nat} {bs : List UInt8} {w w1 w2 : World} (h : WrAt B p bs w w1) (hb : Below w1.heap.size w1 w2) : WrAt B p bs w w2 :=
  ⟨h.wr.keep hb, h.below.trans ⟨hb.os, hb.tape, hb.output, hb.size, fun k hk => hb.block k (by have := h.size; omega)⟩, Nat.le_trans h.size hb.size⟩
theorem WrAt.cell {B p : Nat} {bs : List UInt8} {w w1 : World} (h : WrAt B p bs w w1) {a : Addr} {v : Value} (hc : w.cell? a = some v) (ha : a.block < B) : w1.cell? a = some v :=
  (World.cell?_of_block (h.below.block a.block ha)).trans hc
/-- A new writer. -/
theorem wr_new (w : World) : WrAt w.heap.size w.heap.size [] w (w.alloc (.cells #[.slice none 0 0, .bool false] 244)) :=
  ⟨⟨.slice none 0 0, Blk.new _ _ _, World.ownsRowF_nil _ _ _ _, by simp [Value.ownBlock], Nat.le_refl _⟩, (Below.refl _ _).alloc (Nat.le_refl _) _, by simp⟩
/-- The cells of a datagram's ends. -/
structure U10 (w : World) (b : Nat) : Prop where
  c0 : w.cell? ⟨b, 0, none⟩ = some (.int .u8 10)
  c1 : w.cell? ⟨b, 1, none⟩ = some (.int .u8 0)
  c2 : w.cell? ⟨b, 2, none⟩ = some (.int .u8 0)
  c3 : w.cell? ⟨b, 3, none⟩ = some (.int .u8 0)
  c4 : w.cell? ⟨b, 4, none⟩ = some (.int .u8 224)
  c5 : w.cell? ⟨b, 5, none⟩ = some (.int .u8 224)
  c6 : w.cell? ⟨b, 6, none⟩ = some (.int .u8 0)
  c7 : w.cell? ⟨b, 7, none⟩ = some (.int .u8 10)
  c8 : w.cell? ⟨b, 8, none⟩ = some (.int .i64 5)
  c9 : w.cell? ⟨b, 9, none⟩ = some (.int .i64 5)
theorem U10.move {w w' : World} {b : Nat} (h : U10 w b) (e : w'.heap[b]? = w.heap[b]?) : U10 w' b :=
  ⟨(World.cell?_of_block e).trans h.c0, (World.cell?_of_block e).trans h.c1, (World.cell?_of_block e).trans h.c2, (World.cell?_of_block e).trans h.c3, (World.cell?_of_block e).trans h.c4, (World.cell?_of_block e).trans h.c5, (World.cell?_of_block e).trans h.c6, (World.cell?_of_block e).trans h.c7, (World.cell?_of_block e).trans h.c8, (World.cell?_of_block e).trans h.c9⟩
def uCells : Array Value := #[.int .u8 10, .int .u8 0, .int .u8 0, .int .u8 0, .int .u8 224, .int .u8 224, .int .u8 0, .int .u8 10, .int .i64 5, .int .i64 5]
theorem U10.of {w : World} {b t : Nat} (h : Blk w b t uCells) : U10 w b := ⟨h.cell 0, h.cell 1, h.cell 2, h.cell 3, h.cell 4, h.cell 5, h.cell 6, h.cell 7, h.cell 8, h.cell 9⟩
theorem two_noughts (s : ByteArray) (h : List UInt8) : ((⟨h.toArray⟩ : ByteArray) ++ (⟨#[0, 0]⟩ : ByteArray) ++ s).data.toList = h ++ [0, 0] ++ s.data.toList := by simp
set_option maxHeartbeats 4000000 in
theorem uenc_calls (d : ByteArray) (w : World) (hl : d.size ≤ 100) : Calls Tryz.prog 66 #[.agg #[.int .u8 10, .int .u8 0, .int .u8 0, .int .u8 0, .int .u8 224, .int .u8 224, .int .u8 0, .int .u8 10, .int .i64 5, .int .i64 5], .string d] w fun e w' => e = .returned (.tuple #[strOf (udpB d.data.toList), .int .i64 0]) ∧ Below w.heap.size w w' := by
  go_enter Tryz.func66, Tryz.ntmps66
  go_wp2_with (fail)
  have hw := wr_new (w.alloc (.cells uCells 186))
  have hu : U10 ((w.alloc (.cells uCells 186)).alloc (.cells #[.slice none 0 0, .bool false] 244)) w.heap.size := U10.of ((Blk.new w 186 uCells).alloc _)
  have hbel : Below w.heap.size w ((w.alloc (.cells uCells 186))) := (Below.refl _ _).alloc (Nat.le_refl _) _
  have hsz : (w.alloc (.cells uCells 186)).heap.size = w.heap.size + 1 := by simp
  rw [hsz] at hw
  unfold uCells at hw hu hbel
  clear hsz
  have hW0 : Below w.heap.size w ((w.alloc (.cells #[.int .u8 10, .int .u8 0, .int .u8 0, .int .u8 0, .int .u8 224, .int .u8 224, .int .u8 0, .int .u8 10, .int .i64 5, .int .i64 5] 186)).alloc (.cells #[.slice none 0 0, .bool false] 244)) := hbel.alloc (by simp) _
  have H2 : Aside (WrAt (w.heap.size + 1) (w.heap.size + 1) [] ((w.alloc (.cells #[.int .u8 10, .int .u8 0, .int .u8 0, .int .u8 0, .int .u8 224, .int .u8 224, .int .u8 0, .int .u8 10, .int .i64 5, .int .i64 5] 186)).alloc (.cells #[.slice none 0 0, .bool false] 244)) ((w.alloc (.cells #[.int .u8 10, .int .u8 0, .int .u8 0, .int .u8 0, .int .u8 224, .int .u8 224, .int .u8 0, .int .u8 10, .int .i64 5, .int .i64 5] 186)).alloc (.cells #[.slice none 0 0, .bool false] 244))) := ⟨hw.wr, Below.refl _ _, hw.size⟩
  clear hw hbel
  generalize (w.alloc (.cells #[.int .u8 10, .int .u8 0, .int .u8 0, .int .u8 0, .int .u8 224, .int .u8 224, .int .u8 0, .int .u8 10, .int .i64 5, .int .i64 5] 186)).alloc (.cells #[.slice none 0 0, .bool false] 244) = W at *
  have HU := Aside.mk hu
  have HW := Aside.mk hW0
  have HL := Aside.mk hl
  clear hu hW0
  obtain ⟨b, hb⟩ : ∃ b, b = w.heap.size := ⟨_, rfl⟩
  rw [← hb] at HU H2 ⊢
  have HBE := Aside.mk hb
  clear hb
  go_wp2_with (first | (go_at_call 98; refine (wr16_calls _ _ _ _ _ H2.out.wr (by first | decide | omega) (by first | decide | omega | exact Int.ofNat_lt.2 (udpSum_lt _)) (by simp only [List.length_append, be16_len, srcB_len, dstB_len, mk_size, str_len, List.length_nil]; omega) H2.out.size).mono ?_; rintro e w2 ⟨rfl, h2⟩; replace H2 := Aside.mk (H2.out.step h2); clear h2; obtain ⟨e0, e1, e2, e3, e4, e5, e6, e7, e8, e9⟩ := HU.out.move (H2.out.below.block b (Nat.lt_succ_self b))) | (go_at_call 101; refine (wrText_calls _ _ _ _ _ H2.out.wr (by simp only [List.length_append, be16_len, srcB_len, dstB_len, mk_size, str_len, List.length_nil]; omega) H2.out.size).mono ?_; rintro e w2 ⟨rfl, h2⟩; replace H2 := Aside.mk (H2.out.step h2); clear h2) | (go_at_call 99; refine (wrBytes_calls _ _ _ _ H2.out.wr).mono ?_; rintro e w2 ⟨rfl, rfl⟩; unfold strOf) | (go_at_call 100; refine (usum_lit _ _ (by simp [ByteArray.size_append, mk_size, List.length_append, be16_len, str_len]; omega)).mono ?_; rintro e w2 ⟨rfl, h2⟩; replace H2 := Aside.mk (H2.out.keep h2); clear h2))
  all_goals first | (exfalso; rename_i hx; simp only [be16_len] at hx; omega) | skip
  have hB : udpB d.data.toList = be16 5 ++ (be16 5 ++ (be16 (8 + d.size) ++ (be16 (udpSum (be16 5 ++ (be16 5 ++ (be16 (8 + d.size) ++ 0 :: 0 :: d.data.toList)))) ++ d.data.toList))) := by
    unfold udpB
    simp only [str_len, List.append_assoc]
    rfl
  rw [hB]
  go_ret2
  exact ⟨rfl, HW.out.trans ⟨H2.out.below.os, H2.out.below.tape, H2.out.below.output, H2.out.below.size, fun k hk => H2.out.below.block k (by have := HBE.out; omega)⟩⟩
end Go.Proofs.YtdgjcjhicbgfaaaGreat
end

/- A datagram read. Conditions: it is one that was made here. -/
section
namespace Go.Proofs.YtdgjcjhicbgfaaaGreat
open Go.RowKit Go.Lib
set_option linter.unusedVariables false
set_option linter.unusedSimpArgs false
set_option maxRecDepth 20000

theorem be16_val (n : Nat) (h : n < 65536) : (UInt8.ofNat (n / 256)).toNat * 256 + (UInt8.ofNat n).toNat = n := by simp; omega
theorem r16_be (p n : Nat) (b : List UInt8) (w : World) (h : Rd w p (be16 n ++ b)) (hn : n < 65536) (hl : b.length ≤ 4000) : Calls Tryz.prog 149 #[.pointer (some ⟨p, 0, none⟩)] w fun e w' => e = .returned (.int .i64 n) ∧ Rd w' p b ∧ Upon (· = p) w w' := by
  have := r16_calls p (UInt8.ofNat (n / 256)) (UInt8.ofNat n) b w h hl
  rw [be16_val n hn] at this
  exact this
def srcC : Array Value := #[.int .u8 10, .int .u8 0, .int .u8 0, .int .u8 0]
def dstC : Array Value := #[.int .u8 224, .int .u8 224, .int .u8 0, .int .u8 10]
theorem Blk.below {w w' : World} {g : Nat} {t : TypeId} {cs : Array Value} (h : Blk w g t cs) (hb : Below w.heap.size w w') : Blk w' g t cs := (hb.block g h.lt).trans h
structure Src4 (w : World) (b : Nat) : Prop where
  c0 : w.cell? ⟨b, 0, none⟩ = some (.int .u8 10)
  c1 : w.cell? ⟨b, 1, none⟩ = some (.int .u8 0)
  c2 : w.cell? ⟨b, 2, none⟩ = some (.int .u8 0)
  c3 : w.cell? ⟨b, 3, none⟩ = some (.int .u8 0)
structure Dst4 (w : World) (b : Nat) : Prop where
  c0 : w.cell? ⟨b, 0, none⟩ = some (.int .u8 224)
  c1 : w.cell? ⟨b, 1, none⟩ = some (.int .u8 224)
  c2 : w.cell? ⟨b, 2, none⟩ = some (.int .u8 0)
  c3 : w.cell? ⟨b, 3, none⟩ = some (.int .u8 10)
theorem Src4.of {w : World} {b t : Nat} (h : Blk w b t srcC) : Src4 w b := ⟨h.cell 0, h.cell 1, h.cell 2, h.cell 3⟩
theorem Dst4.of {w : World} {b t : Nat} (h : Blk w b t dstC) : Dst4 w b := ⟨h.cell 0, h.cell 1, h.cell 2, h.cell 3⟩
def noughtC : Array Value := #[.int .u8 0, .int .u8 0, .int .u8 0, .int .u8 0, .int .u8 0, .int .u8 0, .int .u8 0, .int .u8 0, .int .i64 0, .int .i64 0]
/-- What stands while a datagram is read. -/
structure UD (w0 w : World) (p : Nat) (l : List UInt8) : Prop where
  rd : Rd w p l
  src : Blk w w0.heap.size 119 srcC
  dst : Blk w (w0.heap.size + 1) 119 dstC
  out : Blk w (w0.heap.size + 1 + 1) 186 noughtC
  hp : p = w0.heap.size + 1 + 1 + 1
  below : Below w0.heap.size w0 w
theorem UD.move {w0 w w' : World} {p : Nat} {l l' : List UInt8} (h : UD w0 w p l) (hr : Rd w' p l') (hu : Upon (· = p) w w') : UD w0 w' p l' := by
  have hp := h.hp
  refine ⟨hr, hu.blk h.src (by omega), hu.blk h.dst (by omega), hu.blk h.out (by omega), hp, ?_⟩
  exact h.below.trans ⟨hu.os, hu.tape, hu.output, hu.size, fun k hk => hu.block k (by have := h.src.lt; omega) (by omega)⟩
theorem UD.alloc {w0 w : World} {p : Nat} {l : List UInt8} (h : UD w0 w p l) (o : Obj) : UD w0 (w.alloc o) p l :=
  ⟨Blk.alloc h.rd o, h.src.alloc o, h.dst.alloc o, h.out.alloc o, h.hp, h.below.alloc (by have := h.src.lt; omega) o⟩
theorem UD.set {w0 w : World} {p q i : Nat} {l : List UInt8} (h : UD w0 w p l) (hq : p < q) (v : Value) : UD w0 (w.setCell ⟨q, i, none⟩ v) p l := by
  have hp := h.hp
  refine ⟨Blk.far h.rd (by simp; omega) v, h.src.far (by simp; omega) v, h.dst.far (by simp; omega) v, h.out.far (by simp; omega) v, hp, ?_⟩
  exact (Upon.of_below (S := (· = q)) h.below).set _ _ (.inl rfl) |>.below (Nat.le_refl _) (fun i hi => by omega)
theorem UD.drew {w0 w : World} {p : Nat} {l : List UInt8} (h : UD w0 w p l) : UD w0 w.drew p l := ⟨h.rd, h.src, h.dst, h.out, h.hp, h.below.drew⟩
theorem UD.first {w : World} {s : ByteArray} {w1 : World} (h1 : Rd w1 (((w.alloc (.cells srcC 119)).alloc (.cells dstC 119)).alloc (.cells noughtC 186)).heap.size s.data.toList) (h2 : Below (((w.alloc (.cells srcC 119)).alloc (.cells dstC 119)).alloc (.cells noughtC 186)).heap.size (((w.alloc (.cells srcC 119)).alloc (.cells dstC 119)).alloc (.cells noughtC 186)) w1) : UD w w1 (w.heap.size + 1 + 1 + 1) s.data.toList := by
  have e : (((w.alloc (.cells srcC 119)).alloc (.cells dstC 119)).alloc (.cells noughtC 186)).heap.size = w.heap.size + 1 + 1 + 1 := by simp
  have b1 : Blk (((w.alloc (.cells srcC 119)).alloc (.cells dstC 119)).alloc (.cells noughtC 186)) w.heap.size 119 srcC := ((Blk.new _ _ _).alloc _).alloc _
  have b2 : Blk (((w.alloc (.cells srcC 119)).alloc (.cells dstC 119)).alloc (.cells noughtC 186)) (w.heap.size + 1) 119 dstC := by
    have := (Blk.new (w.alloc (.cells srcC 119)) 119 dstC).alloc (.cells noughtC 186)
    simpa using this
  have b3 : Blk (((w.alloc (.cells srcC 119)).alloc (.cells dstC 119)).alloc (.cells noughtC 186)) (w.heap.size + 1 + 1) 186 noughtC := by
    have := Blk.new ((w.alloc (.cells srcC 119)).alloc (.cells dstC 119)) 186 noughtC
    simpa using this
  refine ⟨by rw [← e]; exact h1, b1.below h2, b2.below h2, b3.below h2, rfl, ?_⟩
  exact below_then ((((Below.refl _ _).alloc (Nat.le_refl _) _).alloc (by simp) _).alloc (by simp; omega) _) (by rw [e]; omega) h2
structure UT (w0 w : World) (p q : Nat) (l : List UInt8) (cs : Array Value) : Prop where
  ud : UD w0 w p l
  blk : Blk w q 186 cs
  lt : p < q
theorem UT.move {w0 w w' : World} {p q : Nat} {l l' : List UInt8} {cs : Array Value} (h : UT w0 w p q l cs) (hr : Rd w' p l') (hu : Upon (· = p) w w') : UT w0 w' p q l' cs :=
  ⟨h.ud.move hr hu, hu.blk h.blk (by have := h.lt; omega), h.lt⟩
theorem UT.set {w0 w : World} {p q : Nat} {l : List UInt8} {cs : Array Value} (h : UT w0 w p q l cs) (i : Nat) (v : Value) : UT w0 (w.setCell ⟨q, i, none⟩ v) p q l (cs.setIfInBounds i v) :=
  ⟨h.ud.set h.lt v, h.blk.set i v, h.lt⟩
theorem UT.drew {w0 w : World} {p q : Nat} {l : List UInt8} {cs : Array Value} (h : UT w0 w p q l cs) : UT w0 w.drew p q l cs := ⟨h.ud.drew, h.blk, h.lt⟩
theorem UT.below {w0 w w' : World} {p q : Nat} {l : List UInt8} {cs : Array Value} (h : UT w0 w p q l cs) (hb : Below w.heap.size w w') : UT w0 w' p q l cs :=
  h.move (Blk.below h.ud.rd hb) (Upon.of_below hb)
theorem results_cell2 {P : Program} {fn : Func} {p u v : Tmp} {ty : TypeId} (h : fn.results = #[.cell p ty, .tmp u, .tmp v]) (tmps : Array Value) (w : World) (g : Nat) (t : TypeId) (cs : Array Value) (fr : Nat × Nat)
    (hp : tmps.getD p undef = .pointer (some ⟨g, 0, none⟩)) (hg : w.heap[g]? = some (.cells cs t fr))
    (hud : (P.underlying ty).any (fun d => match d with | .struct _ | .array _ _ => true | _ => false) = true) (hi : (P.info? ty).map (·.size) = some cs.size) :
    (results fn tmps).run P w = .ok (.tuple #[.agg cs, tmps.getD u undef, tmps.getD v undef]) w := by
  have hp' : tmps[p]?.getD undef = .pointer (some ⟨g, 0, none⟩) := by simpa using hp
  obtain ⟨d, hu, hd⟩ := (Option.any_eq_true _ _).1 hud
  simp [results, h, hp', asAddr, run_loadVar_row w g t ty cs fr d hg hu (by cases d <;> first | rfl | exact hd) hi]
theorem results_cell1 {P : Program} {fn : Func} {p u : Tmp} {ty : TypeId} (h : fn.results = #[.cell p ty, .tmp u]) (tmps : Array Value) (w : World) (g : Nat) (t : TypeId) (cs : Array Value) (fr : Nat × Nat)
    (hp : tmps.getD p undef = .pointer (some ⟨g, 0, none⟩)) (hg : w.heap[g]? = some (.cells cs t fr))
    (hud : (P.underlying ty).any (fun d => match d with | .struct _ | .array _ _ => true | _ => false) = true) (hi : (P.info? ty).map (·.size) = some cs.size) :
    (results fn tmps).run P w = .ok (.tuple #[.agg cs, tmps.getD u undef]) w := by
  have hp' : tmps[p]?.getD undef = .pointer (some ⟨g, 0, none⟩) := by simpa using hp
  obtain ⟨d, hu, hd⟩ := (Option.any_eq_true _ _).1 hud
  simp [results, h, hp', asAddr, run_loadVar_row w g t ty cs fr d hg hu (by cases d <;> first | rfl | exact hd) hi]
/-- A block of ten cells that can be written. -/
structure Z10 (w : World) (b : Nat) : Prop where
  c0 : w.cell? ⟨b, 0, none⟩ = some (.int .u8 0)
  c1 : w.cell? ⟨b, 1, none⟩ = some (.int .u8 0)
  c2 : w.cell? ⟨b, 2, none⟩ = some (.int .u8 0)
  c3 : w.cell? ⟨b, 3, none⟩ = some (.int .u8 0)
  c4 : w.cell? ⟨b, 4, none⟩ = some (.int .u8 0)
  c5 : w.cell? ⟨b, 5, none⟩ = some (.int .u8 0)
  c6 : w.cell? ⟨b, 6, none⟩ = some (.int .u8 0)
  c7 : w.cell? ⟨b, 7, none⟩ = some (.int .u8 0)
  c8 : w.cell? ⟨b, 8, none⟩ = some (.int .i64 0)
  c9 : w.cell? ⟨b, 9, none⟩ = some (.int .i64 0)
  fr : ∀ i, w.frozen? ⟨b, i, none⟩ = false
theorem Z10.of {w : World} {b t : Nat} (h : Blk w b t noughtC) : Z10 w b := ⟨h.cell 0, h.cell 1, h.cell 2, h.cell 3, h.cell 4, h.cell 5, h.cell 6, h.cell 7, h.cell 8, h.cell 9, fun i => h.frozen i⟩
set_option maxHeartbeats 4000000 in
theorem udec_calls (d s : ByteArray) (w : World) (hl : d.size ≤ 100) (hs : s.data.toList = udpB d.data.toList) : Calls Tryz.prog 116 #[.agg #[.int .u8 10, .int .u8 0, .int .u8 0, .int .u8 0], .agg #[.int .u8 224, .int .u8 224, .int .u8 0, .int .u8 10], .string s] w fun e w' => e = .returned (.tuple #[.agg uCells, .string d, .int .i64 0]) ∧ Below w.heap.size w w' := by
  obtain ⟨n, hn⟩ : ∃ n, n = d.size := ⟨_, rfl⟩
  obtain ⟨u, hu⟩ : ∃ u, u = udpSum (be16 5 ++ be16 5 ++ be16 (8 + n) ++ [0, 0] ++ d.data.toList) := ⟨_, rfl⟩
  have hlist : s.data.toList = be16 5 ++ (be16 5 ++ (be16 (8 + n) ++ (be16 u ++ d.data.toList))) := by
    rw [hs, hu, hn]; unfold udpB; simp only [str_len, List.append_assoc]
  have hu6 : u < 65536 := by rw [hu]; exact udpSum_lt _
  have hz : s.size = 8 + n := by rw [← str_len, hlist]; simp only [List.length_append, be16_len, str_len]; omega
  have HD : Aside (d.size = n) := ⟨hn.symm⟩
  have hn1 : n ≤ 100 := by omega
  have HUU := Aside.mk hu
  have HLI := Aside.mk hlist
  clear hs hl hn hu hlist
  go_enter Tryz.func116, Tryz.ntmps116
  go_wp2_with (fail)
  refine (read_calls s _).mono ?_
  rintro e w1 ⟨rfl, h1, h2⟩
  have HW := Aside.mk (UD.first h1 h2)
  obtain ⟨a0, a1, a2, a3⟩ := Src4.of HW.out.src
  obtain ⟨d0, d1, d2, d3⟩ := Dst4.of HW.out.dst
  clear h1 h2
  simp only [World.size_alloc]
  go_wp2_with (fail)
  have HT0 : Aside (UT w (w1.alloc (.cells #[.int .u8 10, .int .u8 0, .int .u8 0, .int .u8 0, .int .u8 224, .int .u8 224, .int .u8 0, .int .u8 10, .int .i64 0, .int .i64 0] 186)) (w.heap.size + 1 + 1 + 1) w1.heap.size (be16 5 ++ (be16 5 ++ (be16 (8 + n) ++ (be16 u ++ d.data.toList)))) #[.int .u8 10, .int .u8 0, .int .u8 0, .int .u8 0, .int .u8 224, .int .u8 224, .int .u8 0, .int .u8 10, .int .i64 0, .int .i64 0]) :=
    ⟨⟨by rw [← HLI.out]; exact HW.out.alloc _, Blk.new _ _ _, HW.out.rd.lt⟩⟩
  have HLN : Aside (∀ k, k ≤ 3900 → (be16 5 ++ (be16 (8 + n) ++ (be16 u ++ d.data.toList))).length ≤ 4000 ∧ ((be16 (8 + n) ++ (be16 u ++ d.data.toList))).length ≤ 4000 ∧ (be16 u ++ d.data.toList).length ≤ 4000 ∧ d.data.toList.length ≤ 4000) := ⟨fun k hk => by
    simp only [List.length_append, be16_len, str_len, HD.out]; omega⟩
  clear HW a0 a1 a2 a3 d0 d1 d2 d3
  generalize w1.heap.size = q at *
  refine (r16_be _ 5 _ _ HT0.out.ud.rd (by omega) (HLN.out 0 (by omega)).1).mono ?_
  rintro e w2 ⟨rfl, h1, h2⟩
  replace HT0 := Aside.mk (HT0.out.move h1 h2)
  clear h1 h2
  go_wp2_with (fail)
  refine (r16_be _ 5 _ _ HT0.out.ud.rd (by omega) (HLN.out 0 (by omega)).2.1).mono ?_
  rintro e w3 ⟨rfl, h1, h2⟩
  replace HT0 := Aside.mk (HT0.out.move h1 h2)
  clear h1 h2
  have c8 : w3.cell? ⟨q, 8, none⟩ = some (.int .i64 0) := HT0.out.blk.cell 8
  have c9 : w3.cell? ⟨q, 9, none⟩ = some (.int .i64 0) := HT0.out.blk.cell 9
  have f8 := HT0.out.blk.frozen 8
  have f9 := HT0.out.blk.frozen 9
  replace HT0 := Aside.mk ((HT0.out.set 8 (.int .i64 5)).set 9 (.int .i64 5))
  go_wp2_with (fail)
  have HT1 : Aside (UT w ((w3.setCell ⟨q, 8, none⟩ (.int .i64 5)).setCell ⟨q, 9, none⟩ (.int .i64 5)) (w.heap.size + 1 + 1 + 1) q (be16 (8 + n) ++ (be16 u ++ d.data.toList)) uCells) := HT0
  clear HT0 c8 c9 f8 f9
  generalize (w3.setCell ⟨q, 8, none⟩ (.int .i64 5)).setCell ⟨q, 9, none⟩ (.int .i64 5) = w4 at *
  refine (r16_be _ (8 + n) _ _ HT1.out.ud.rd (by omega) (HLN.out 0 (by omega)).2.2.1).mono ?_
  rintro e w5 ⟨rfl, h1, h2⟩
  replace HT1 := Aside.mk (HT1.out.move h1 h2)
  clear h1 h2
  go_wp2_with (fail)
  refine (r16_be _ u _ _ HT1.out.ud.rd (by omega) (HLN.out 0 (by omega)).2.2.2).mono ?_
  rintro e w6 ⟨rfl, h1, h2⟩
  replace HT1 := Aside.mk (HT1.out.move h1 h2)
  clear h1 h2
  go_wp2_with (go_at_call 169; refine (err_calls _ _ _ HT1.out.ud.rd).mono ?_; rintro e w' ⟨rfl, rfl⟩)
  have a0 := fun x : Cls w6 => x.cell (Src4.of HT1.out.ud.src).c0
  have a1 := fun x : Cls w6 => x.cell (Src4.of HT1.out.ud.src).c1
  have a2 := fun x : Cls w6 => x.cell (Src4.of HT1.out.ud.src).c2
  have a3 := fun x : Cls w6 => x.cell (Src4.of HT1.out.ud.src).c3
  have d0 := fun x : Cls w6 => x.cell (Dst4.of HT1.out.ud.dst).c0
  have d1 := fun x : Cls w6 => x.cell (Dst4.of HT1.out.ud.dst).c1
  have d2 := fun x : Cls w6 => x.cell (Dst4.of HT1.out.ud.dst).c2
  have d3 := fun x : Cls w6 => x.cell (Dst4.of HT1.out.ud.dst).c3
  obtain ⟨h, hh⟩ : ∃ h : ByteArray, h = ⟨(be16 5 ++ (be16 5 ++ be16 (8 + n))).toArray⟩ := ⟨_, rfl⟩
  have hsx : s = ⟨((be16 5 ++ (be16 5 ++ be16 (8 + n))) ++ (be16 u ++ d.data.toList)).toArray⟩ := by
    apply ByteArray.ext
    apply Array.ext'
    rw [HLI.out]
    simp
  have hx6 : s.extract 0 6 = h := by
    rw [hh, hsx]; exact extract_pre (be16 5 ++ (be16 5 ++ be16 (8 + n))) _
  have hx8 : s.extract 8 (8 + n) = d := by
    have e : s = ⟨((be16 5 ++ (be16 5 ++ (be16 (8 + n) ++ be16 u))) ++ d.data.toList).toArray⟩ := by rw [hsx]; simp
    have h8 : (be16 5 ++ (be16 5 ++ (be16 (8 + n) ++ be16 u))).length = 8 := by simp only [List.length_append, be16_len]
    have hq := extract_suf (be16 5 ++ (be16 5 ++ (be16 (8 + n) ++ be16 u))) d.data.toList (8 + n) (by rw [List.length_append, h8, str_len, HD.out])
    rw [h8] at hq
    rw [e, hq]
  have HH : Aside (udpSum (h ++ (⟨#[0, 0]⟩ : ByteArray) ++ d).data.toList = u) := ⟨by rw [HUU.out, hh]; simp⟩
  have HS : Aside ((h ++ (⟨#[0, 0]⟩ : ByteArray) ++ d).size ≤ 4000) := ⟨by
    rw [← str_len, hh]; simp only [ByteArray.data_append, Array.toList_append, List.length_append, be16_len, str_len, HD.out]; simp; omega⟩
  have hsize : h.size = 6 := by rw [hh, mk_size]; rfl
  have hu0 : ¬ ((u : Int) = 0) := by
    have : 0 < u := by rw [HUU.out]; unfold udpSum; simp only; split <;> omega
    omega
  have hune : ((u : Int) != 0) = true := by rw [bne_iff_ne]; exact hu0
  have hdz : d.size = n := HD.out
  clear hh hsx
  refine region_cls (by kernel_rfl) (by kernel_rfl) ?_
  repeat (go_big_quiet_step ((go_at_call 100; exact Cls.calls _ ((usum_lit _ _ HS.out).mono fun e w' he => ⟨by rw [he.1, HH.out], he.2⟩))))
  refine wpQuiet_nil ?_
  intro _ hw'
  obtain ⟨x, hw''⟩ := hw'
  subst hw''
  have HT2 : Aside (UT w x.at_ (w.heap.size + 1 + 1 + 1) q d.data.toList uCells) := ⟨HT1.out.below x.below⟩
  clear HT1 a0 a1 a2 a3 d0 d1 d2 d3 hx6 hx8 HH HS hsize
  generalize x.at_ = w8 at *
  go_wp2_with (fail)
  have HT3 := Aside.mk HT2.out.drew
  have hle5 : d.data.toList.length ≤ 5000 := by rw [str_len, hdz]; omega
  have HL5 := Aside.mk hle5
  clear hle5
  obtain ⟨u0, u1, u2, u3, u4, u5, u6, u7, u8', u9⟩ := U10.of HT3.out.blk
  go_region_with (go_at_call 170; refine (rest_calls _ _ _ HT3.out.ud.rd HL5.out).mono ?_; rintro e w9 ⟨rfl, h1, h2⟩; have HT4 := Aside.mk (HT3.out.move h1 h2); obtain ⟨v0, v1, v2, v3, v4, v5, v6, v7, v8, v9⟩ := U10.of HT4.out.blk; obtain ⟨z0, z1, z2, z3, z4, z5, z6, z7, z8, z9, zf⟩ := Z10.of HT4.out.ud.out; clear h1 h2)
  all_goals
    go_wp2
    have hout := (((((((((HT4.out.ud.out.set 0 (.int .u8 10)).set 1 (.int .u8 0)).set 2 (.int .u8 0)).set 3 (.int .u8 0)).set 4 (.int .u8 224)).set 5 (.int .u8 224)).set 6 (.int .u8 0)).set 7 (.int .u8 10)).set 8 (.int .i64 5)).set 9 (.int .i64 5)
    have hbel := (((((((((((Upon.of_below (S := (· = w.heap.size + 1 + 1)) HT4.out.ud.below).setg rfl 0 (.int .u8 10)).setg rfl 1 (.int .u8 0)).setg rfl 2 (.int .u8 0)).setg rfl 3 (.int .u8 0)).setg rfl 4 (.int .u8 224)).setg rfl 5 (.int .u8 224)).setg rfl 6 (.int .u8 0)).setg rfl 7 (.int .u8 10)).setg rfl 8 (.int .i64 5)).setg rfl 9 (.int .i64 5)).below (Nat.le_refl _) (fun i hi => by omega)
    refine bodyPost_ret (v := .tuple #[.agg uCells, .string d, .int .i64 0]) ?_ rfl ⟨rfl, hbel⟩
    rw [results_cell2 rfl _ _ (w.heap.size + 1 + 1) 186 uCells (0, 0) rfl hout (by kernel_rfl) (by kernel_rfl)]
    rw [← strOf_data d]
    rfl
end Go.Proofs.YtdgjcjhicbgfaaaGreat
end
