/- What Pop and Clear of the document's queues answer and leave. Conditions: its list lies in a row of its own. -/
import Derived.Test.YtjhpeelgehchiaaRefR
namespace Go.Proofs.Ytjhpeelgehchiaa
open Go.RowKit Go.Proofs.YtjhpeelgehchiaaW.PrintWords
set_option linter.unusedVariables false

theorem rpop_empty (h : Nat) (r : RS) (w : World) (H : RHeld w h r) (hl : r.l = []) : Calls Try.prog 18 #[.pointer (some ⟨h, 0, none⟩)] w fun e w' => e = .returned (.tuple #[.int .i64 0, .string ⟨#[]⟩, .int .i64 23]) ∧ w = w' := by
  obtain ⟨A, c, h0, hc⟩ := H.lists
  rw [hl] at h0
  clear H hc hl
  go_enter Try.func18, Try.ntmps18
  go_wp2
  go_ret3
  exact ⟨rfl, rfl⟩
def RS.clear (r : RS) : RS := { r with l := [], turn := 0 }
theorem rclear_calls (h : Nat) (r : RS) (w : World) (H : RHeld w h r) : Calls Try.prog 20 #[.pointer (some ⟨h, 0, none⟩)] w fun e w' => e = .returned (.tuple #[]) ∧ RPost w h r.clear w' := by
  have HH := Aside.mk H
  obtain ⟨v, hb, hq⟩ := H
  have c0 : w.cell? ⟨h, 0, none⟩ = some v := hb.cell 0
  have c3 : w.cell? ⟨h, 3, none⟩ = some (.int .i64 r.turn) := hb.cell 3
  have f0 := hb.frozen 0
  have f3 := hb.frozen 3
  have HB := Aside.mk hb
  have HQ := Aside.mk hq
  clear hb hq
  go_enter Try.func20, Try.ntmps20
  go_wp2
  go_end0
  have hb2 := (HB.out.set 0 (.slice none 0 0)).set 3 (.int .i64 0)
  have hput := rput (n' := 0) (xs' := []) HB.out HQ.out (w1 := w) (q_of_own (own_nil w 0 55 2)) ⟨rfl, rfl, rfl, Nat.le_refl _, fun _ _ _ => rfl⟩ (fun b hb => by simp [Value.ownBlock] at hb) hb2 (((Upon.refl (· = h) w).setg (g := h) rfl _ _).setg (g := h) rfl _ _)
  exact ⟨rfl, ⟨_, hb2, hput.1⟩, hput.2⟩
/-- The document's Pop makes a list without the text that is taken. -/
structure RCut (w : World) (h : Nat) (r : RS) (b off c : Nat) (l1 l2 : List Tx) (A1 : Option Addr) (k1 : Nat) (w1 : World) (A2 : Option Addr) (A3 : Option Addr) (k3 : Nat) (w2 : World) : Prop where
  cut1 : ∀ W : World, (Instr.slice 48 (.slice (some ⟨b, off, none⟩) r.l.length c) none (some (.int .i64 l1.length)) none).run Try.prog W = .ok (.slice (some ⟨b, off, none⟩) l1.length c) W
  app1 : (Builtin.append_ #[48, 48] 48 #[.slice none 0 0, .slice (some ⟨b, off, none⟩) l1.length c]).run Try.prog w = .ok (.slice A1 l1.length k1) w1
  cut2 : ∀ W : World, (Instr.slice 48 (.slice (some ⟨b, off, none⟩) r.l.length c) (some (.int .i64 ((l1.length : Int) + 1))) none none).run Try.prog W = .ok (.slice A2 l2.length (c - (l1.length + 1))) W
  app2 : (Builtin.append_ #[48, 48] 48 #[.slice A1 l1.length k1, .slice A2 l2.length (c - (l1.length + 1))]).run Try.prog w1 = .ok (.slice A3 (l1 ++ l2).length k3) w2
  cell1 : w1.cell? ⟨h, 0, none⟩ = some (.slice (some ⟨b, off, none⟩) r.l.length c)
  blk : Blk w2 h 50 #[.slice (some ⟨b, off, none⟩) r.l.length c, .int .i64 r.many, .int .i64 r.depth, .int .i64 r.turn]
  post : ∀ t : Nat, RPost w h ⟨l1 ++ l2, r.many, r.depth, t⟩ ((w2.setCell ⟨h, 0, none⟩ (.slice A3 (l1 ++ l2).length k3)).setCell ⟨h, 3, none⟩ (.int .i64 t))
theorem rcut {w : World} {h : Nat} {r : RS} (H : RHeld w h r) (hsz : r.l.length ≤ 4900) {l1 l2 : List Tx} {p : Tx} (hl : r.l = l1 ++ p :: l2) {b off c : Nat} (h0 : w.cell? ⟨h, 0, none⟩ = some (.slice (some ⟨b, off, none⟩) r.l.length c)) :
    ∃ A1 k1 w1 A2 A3 k3 w2, RCut w h r b off c l1 l2 A1 k1 w1 A2 A3 k3 w2 := by
  obtain ⟨v, hb, hq⟩ := H
  obtain ⟨i, hi, hz⟩ := Option.map_eq_some_iff.1 info55
  simp only [Prod.mk.injEq] at hz
  have hv : v = .slice (some ⟨b, off, none⟩) r.l.length c := by
    have := hb.cell 0
    rw [h0] at this
    simpa using this.symm
  subst hv
  obtain ⟨A, c', he, hnc⟩ := q_slice hq
  injection he with e1 e2 e3
  subst e3
  have hlen : r.l.length = l1.length + l2.length + 1 := by rw [hl]; simp; omega
  have hpos : 0 < r.l.length := by omega
  obtain ⟨ad, ha, hcells⟩ := q_cells hq hpos
  injection ha with ha
  subst ha
  have s1 : SrcV w (some ⟨b, off, none⟩) (prs l1) := fun _ => ⟨_, rfl, fun j u hj => hcells j u (by
    rw [hl, prs_append, List.getElem?_append_left (by exact (List.getElem?_eq_some_iff.1 hj).1)]
    exact hj)⟩
  obtain ⟨A1, k1, w1, happ1, hq1, hg1, hat1⟩ := run_app55 w 48 (.slice none 0 0) [] (q_of_own (own_nil w 0 55 2)) (some ⟨b, off, none⟩) l1.length c l1 rfl s1 (by simp; omega)
  simp only [List.nil_append] at happ1 hq1 hat1
  have hne : (Value.slice (some ⟨b, off, none⟩) r.l.length c).ownBlock ≠ some h := rne hb hq
  have hbw1 : Blk w1 h 50 _ := blk_grown hg1 hb (by simp [Value.ownBlock])
  have hqw1 : QRow w1 0 55 2 (.slice (some ⟨b, off, none⟩) r.l.length c) r.l.length (prs r.l) := q_move hq fun k hk => hg1.block k (q_lt hq k hk) (by simp [Value.ownBlock])
  have hcut2 := cut_from (P := Try.prog) 48 55 .i64 under48 hi 2 hz.2.1 (some ⟨b, off, none⟩) r.l.length c ((l1.length : Int) + 1) (by omega) (by omega)
  have hcut1 := cut_to (P := Try.prog) 48 55 .i64 under48 hi (some ⟨b, off, none⟩) r.l.length c (l1.length : Int) (by omega) (by omega) hnc
  have et : ((l1.length : Int) + 1).toNat = l1.length + 1 := by omega
  rw [et] at hcut2
  rw [Int.toNat_natCast] at hcut1
  have e2 : r.l.length - (l1.length + 1) = l2.length := by omega
  rw [e2] at hcut2
  have hqd := q_drop hqw1 (k := l1.length + 1) (by omega)
  rw [e2] at hqd
  have s2 : ∀ A2, A2 = (if c = l1.length + 1 then some (⟨b, off, none⟩ : Addr) else Option.map (fun x : Addr => x.add ((l1.length + 1) * 2)) (some ⟨b, off, none⟩)) → SrcV w1 A2 (prs l2) := by
    intro A2 hA2 hp
    rw [← hA2] at hqd
    have hl2 : 0 < l2.length := by rw [prs_length] at hp; omega
    obtain ⟨ad, ha, hc⟩ := q_cells hqd hl2
    refine ⟨ad, ha, fun j u hj => hc j u ?_⟩
    rw [← prs_drop, hl, List.drop_append, List.drop_eq_nil_of_le (by omega), List.nil_append, show l1.length + 1 - l1.length = 1 by omega]
    exact hj
  generalize hA2 : (if c = l1.length + 1 then some (⟨b, off, none⟩ : Addr) else Option.map (fun x : Addr => x.add ((l1.length + 1) * 2)) (some ⟨b, off, none⟩)) = A2 at *
  obtain ⟨A3, k3, w2, happ2, hq2, hg2, hat2⟩ := run_app55 w1 48 (.slice A1 l1.length k1) l1 hq1 A2 l2.length (c - (l1.length + 1)) l2 rfl (s2 _ rfl) (by omega)
  have hnew : ∀ k, (Value.slice A1 l1.length k1).ownBlock = some k → w.heap.size ≤ k := by
    intro k hk
    rcases hat1 with h1 | ⟨b', h1, h2⟩
    · rw [hk] at h1; simp [Value.ownBlock] at h1
    · rw [hk] at h1; injection h1 with h1; subst h1; exact h2
  have hg : w.grownBy w2 (Value.slice (some ⟨b, off, none⟩) r.l.length c).ownBlock := ⟨hg2.os.trans hg1.os, hg2.tape.trans hg1.tape, hg2.output.trans hg1.output, Nat.le_trans hg1.size hg2.size, fun k hk hk2 =>
    (hg2.block k (Nat.lt_of_lt_of_le hk hg1.size) (fun e => by have := hnew k e.symm; omega)).trans (hg1.block k hk (by simp [Value.ownBlock]))⟩
  have hbw2 : Blk w2 h 50 _ := blk_grown hg hb hne
  refine ⟨A1, k1, w1, A2, A3, k3, w2, hcut1, happ1, hcut2, happ2, hbw1.cell 0, hbw2, fun t => ?_⟩
  have hb3 := (hbw2.set 0 (.slice A3 (l1 ++ l2).length k3)).set 3 (.int .i64 t)
  have hput := rput hb hq hq2 hg (fun k hk => by
    right
    rcases hat2 with h1 | ⟨b', h1, h2⟩
    · rw [hk] at h1; exact hnew k h1.symm
    · rw [hk] at h1; injection h1 with h1; subst h1; have := hg1.size; omega) hb3 (((Upon.refl (· = h) w2).setg (g := h) rfl _ _).setg (g := h) rfl _ _)
  exact ⟨⟨_, hb3, hput.1⟩, hput.2⟩
structure RNext (r : RS) (d T : Nat) : Prop where
  m0 : 1 ≤ r.many
  m1 : r.many ≤ 4
  t : r.turn < r.many
  lt : d < r.many
  eq : T = (r.turn + d) % r.many
  has : cnt r.l T ≠ 0
  none : ∀ e, e < d → cnt r.l (((r.turn + e) % r.many : Nat)) = 0
def RNRel (r : RS) (d k : Nat) : Prop := ∃ e, e ≤ d ∧ k = (r.turn + e) % r.many
def RS.took (r : RS) (T : Nat) (l : List Tx) : RS := ⟨l, r.many, r.depth, (T + 1) % r.many⟩
set_option maxHeartbeats 4000000 in
theorem rpop_calls (h : Nat) (r : RS) (d T : Nat) (x : ByteArray) (l1 l2 : List Tx) (w : World) (H : RHeld w h r) (hsz : r.l.length ≤ 4900) (hn : RNext r d T) (hl : r.l = l1 ++ (T, x) :: l2) (h1 : ∀ p ∈ l1, p.1 ≠ T) :
    Calls Try.prog 18 #[.pointer (some ⟨h, 0, none⟩)] w fun e w' => e = .returned (.tuple #[.int .i64 T, .string x, .int .i64 0]) ∧ RPost w h (r.took T (l1 ++ l2)) w' := by
  have HH := Aside.mk H
  have HSZ := Aside.mk hsz
  obtain ⟨c1, c2, c3⟩ := H.nums
  have hpos : 0 < r.l.length := by rw [hl, List.length_append, List.length_cons]; omega
  obtain ⟨b, off, c, c0, hcells⟩ := H.reads hpos
  have hne0 : ((r.l.length : Int) == 0) = false := beq_eq_false_iff_ne.2 (by omega)
  have hm0 : ¬ (r.many : Int) = 0 := by have := hn.m0; omega
  have HC := Aside.mk hcells
  have HN := Aside.mk hn
  have HL := Aside.mk hl
  have H1 := Aside.mk h1
  have HM : Aside (1 ≤ r.many ∧ r.many ≤ 4) := ⟨hn.m0, hn.m1⟩
  clear H hsz c2 hpos hcells hn hl h1
  go_enter Try.func18, Try.ntmps18
  go_wp2_with fail
  go_loop [5] (fun i => ∃ k : Nat, i = .int .i64 k ∧ Aside (RNRel r d k)) (fun i => (T + r.many - (intOf i).toNat) % r.many)
  case atStart => exact ⟨r.turn, rfl, ⟨0, Nat.zero_le _, (Nat.mod_eq_of_lt HN.out.t).symm⟩⟩
  case round =>
    obtain ⟨k, rfl, HR⟩ := hrel
    have hk4 : k < r.many := by
      obtain ⟨e, _, h2⟩ := HR.out
      rw [h2]
      exact Nat.mod_lt _ HM.out.1
    have hw : IntKind.i64.wrap ((k : Int) + 1) = (k : Int) + 1 := IntWalk.i64_in _ (by have := HM.out.2; omega)
    have HCALL := Aside.mk (rlen_calls h r k w HH.out (by have := HSZ.out; omega))
    by_cases hz : cnt r.l k = 0
    · rw [hz] at HCALL
      go_wp2_with (go_at_call 21; refine HCALL.out.mono ?_; rintro e w' ⟨rfl, rfl⟩)
      obtain ⟨e, he, rfl⟩ := HR.out
      have hed : e ≠ d := by
        rintro rfl
        have := HN.out.has
        rw [HN.out.eq] at this
        exact this hz
      have hcast : ((((r.turn + e) % r.many : Nat) : Int) + 1) % (r.many : Int) = (((r.turn + (e + 1)) % r.many : Nat) : Int) := by
        rw [show r.turn + (e + 1) = r.turn + e + 1 by omega, ← succ_mod HM.out.1 HM.out.2]
        simp
      rw [hcast]
      refine ⟨⟨_, rfl, ⟨e + 1, by omega, rfl⟩⟩, ?_⟩
      show (T + r.many - ((((r.turn + (e + 1)) % r.many : Nat) : Int)).toNat) % r.many < (T + r.many - ((((r.turn + e) % r.many : Nat) : Int)).toNat) % r.many
      rw [Int.toNat_natCast, Int.toNat_natCast, HN.out.eq, dist_eq HM.out.1 HM.out.2 HN.out.t HN.out.lt (by omega), dist_eq HM.out.1 HM.out.2 HN.out.t HN.out.lt (by omega)]
      omega
    · have hz' : ¬ (cnt r.l k : Int) = 0 := by omega
      have hkT : k = T := by
        obtain ⟨e, he, rfl⟩ := HR.out
        have hed : e = d := by
          apply Classical.byContradiction
          intro hne
          exact hz (HN.out.none e (by omega))
        rw [hed]
        exact HN.out.eq.symm
      subst hkT
      go_wp2_with (go_at_call 21; refine HCALL.out.mono ?_; rintro e w' ⟨rfl, rfl⟩)
      have hT : (r.l[l1.length]?) = some (k, x) := by rw [HL.out]; simp
      obtain ⟨A1, k1, w1, A2, A3, k3, w2, hcut⟩ := rcut HH.out HSZ.out HL.out c0
      have hlen : r.l.length = l1.length + l2.length + 1 := by rw [HL.out]; simp; omega
      have hm4 : r.many ≤ 4 := HM.out.2
      have hs := HSZ.out
      have HLEN := Aside.mk hlen
      obtain ⟨x1, x2⟩ := HC.out _ _ hT
      have H1T : Aside (∀ q, q < l1.length → ∃ p : Tx, p.1 ≠ k ∧ r.l[q]? = some p) := ⟨fun q hq => ⟨l1[q], H1.out _ (List.getElem_mem hq), by rw [HL.out, List.getElem?_append_left hq]; exact List.getElem?_eq_getElem hq⟩⟩
      have HCUT := Aside.mk hcut
      clear hcut hT HCALL HR hz hz' hlen
      go_loop [6] (fun i => ∃ q : Nat, i = .int .i64 q ∧ q ≤ l1.length) (fun i => l1.length - (intOf i).toNat)
      case atStart => exact ⟨0, rfl, by omega⟩
      case round =>
        obtain ⟨q, rfl, hq⟩ := hrel
        have hq0 : (0 : Int) ≤ q := by omega
        have hq1 : (q : Int) < r.l.length := by have := HLEN.out; omega
        by_cases hlt : q < l1.length
        · obtain ⟨p, hp, hpq⟩ := H1T.out q hlt
          obtain ⟨y1, y2⟩ := HC.out _ _ hpq
          have hd : decide ((p.1 : Int) = (k : Int)) = false := decide_eq_false (by omega)
          have hwq : IntKind.i64.wrap ((q : Int) + 1) = (q : Int) + 1 := IntWalk.i64_in _ (by omega)
          go_wp2
          exact ⟨⟨q + 1, by simp, by omega⟩, by simp [intOf]; omega⟩
        · have : q = l1.length := by omega
          subst this
          have hwq : IntKind.i64.wrap ((l1.length : Int) + 1) = (l1.length : Int) + 1 := IntWalk.i64_in _ (by omega)
          have hct1 := HCUT.out.cut1
          have hct2 := HCUT.out.cut2
          have hap1 := HCUT.out.app1
          have hap2 := HCUT.out.app2
          have hc1 := HCUT.out.cell1
          have e0 : w2.cell? ⟨h, 0, none⟩ = some (.slice (some ⟨b, off, none⟩) r.l.length c) := HCUT.out.blk.cell 0
          have e1 : w2.cell? ⟨h, 1, none⟩ = some (.int .i64 r.many) := HCUT.out.blk.cell 1
          have e3 : w2.cell? ⟨h, 3, none⟩ = some (.int .i64 r.turn) := HCUT.out.blk.cell 3
          have f0 := HCUT.out.blk.frozen 0
          have f3 := HCUT.out.blk.frozen 3
          go_wp2_with (at_builtin; first | refine Go.Lib.wpList_append_run _ rfl _ _ _ _ rfl _ _ rfl rfl _ _ hap1 ?_ | refine Go.Lib.wpList_append_run _ rfl _ _ _ _ rfl _ _ rfl rfl _ _ hap2 ?_)
          go_ret3
          have e1 : ((k : Int) + 1) % (r.many : Int) = (((k + 1) % r.many : Nat) : Int) := by simp
          rw [e1]
          have hp := HCUT.out.post ((k + 1) % r.many)
          rw [List.length_append] at hp
          exact ⟨rfl, hp⟩
end Go.Proofs.Ytjhpeelgehchiaa
