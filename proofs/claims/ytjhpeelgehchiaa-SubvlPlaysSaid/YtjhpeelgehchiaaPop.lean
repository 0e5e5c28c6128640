/- next, Pop, Clear: what they answer and leave. Conditions: the queues lie. -/
import Derived.Test.YtjhpeelgehchiaaPush
namespace Go.Proofs.Ytjhpeelgehchiaa
open Go.RowKit Go.Proofs.YtjhpeelgehchiaaW.PrintWords
set_option linter.unusedVariables false

/-- The queue whose turn it is. -/
structure St.isNext (s : St) (d T : Nat) : Prop where
  lt' : d < s.many
  eq : T = (s.turn + d) % s.many
  has : s.L T ≠ []
  none : ∀ e, e < d → s.L ((s.turn + e) % s.many) = []
theorem mod_lt4 {m x : Nat} (h0 : 1 ≤ m) : x % m < m := Nat.mod_lt _ (by omega)
theorem St.isNext.lt {s : St} {d T : Nat} (h : s.isNext d T) : T < s.many := by
  rw [h.eq]
  exact Nat.mod_lt _ (by have := h.lt'; omega)
theorem exists_next {s : St} (h : s.ok) (ha : s.all ≠ 0) : ∃ d T, s.isNext d T := by
  have key : ∃ d, d < s.many ∧ s.L ((s.turn + d) % s.many) ≠ [] := by
    apply Classical.byContradiction
    intro hn
    apply ha
    have hk : ∀ k, k < s.many → s.L k = [] := by
      intro k hk
      apply Classical.byContradiction
      intro hne
      refine hn ⟨(k + s.many - s.turn) % s.many, Nat.mod_lt _ (by omega), ?_⟩
      have : (s.turn + (k + s.many - s.turn) % s.many) % s.many = k := by
        rw [Nat.add_mod_mod, show s.turn + (k + s.many - s.turn) = k + s.many by have := h.t; omega, Nat.add_mod_right, Nat.mod_eq_of_lt hk]
      rw [this]
      exact hne
    have hall : ∀ k, (s.L k).length = 0 := by
      intro k
      by_cases hkm : k < s.many
      · rw [hk k hkm]; rfl
      · rw [h.none k (by omega)]; rfl
    unfold St.all
    rw [hall 0, hall 1, hall 2, hall 3]
  have : ∃ d, (d < s.many ∧ s.L ((s.turn + d) % s.many) ≠ []) ∧ ∀ e, e < d → ¬ (e < s.many ∧ s.L ((s.turn + e) % s.many) ≠ []) := by
    obtain ⟨d, hd⟩ := key
    induction d using Nat.strongRecOn with
    | _ d ih =>
      by_cases hx : ∃ e, e < d ∧ (e < s.many ∧ s.L ((s.turn + e) % s.many) ≠ [])
      · obtain ⟨e, he, hp⟩ := hx
        exact ih e he hp
      · exact ⟨d, hd, fun e he hp => hx ⟨e, he, hp⟩⟩
  obtain ⟨d, ⟨h1, h2⟩, h3⟩ := this
  refine ⟨d, _, h1, rfl, h2, fun e he => ?_⟩
  apply Classical.byContradiction
  intro hne
  exact h3 e he ⟨by omega, hne⟩
theorem dist_eq {m t d e : Nat} (h0 : 1 ≤ m) (h1 : m ≤ 4) (ht : t < m) (hd : d < m) (he : e ≤ d) : ((t + d) % m + m - (t + e) % m) % m = d - e := by
  have : m = 1 ∨ m = 2 ∨ m = 3 ∨ m = 4 := by omega
  rcases this with rfl | rfl | rfl | rfl <;> omega
theorem succ_mod {m x : Nat} (h0 : 1 ≤ m) (h1 : m ≤ 4) : ((x % m + 1) % m) = (x + 1) % m := by
  have : m = 1 ∨ m = 2 ∨ m = 3 ∨ m = 4 := by omega
  rcases this with rfl | rfl | rfl | rfl <;> omega
def NextRel (s : St) (d k : Nat) : Prop := ∃ e, e ≤ d ∧ k = (s.turn + e) % s.many
set_option maxHeartbeats 2000000 in
theorem next_calls (g : Nat) (s : St) (d T : Nat) (w : World) (hh : Held w g s) (hk : s.ok) (hn : s.isNext d T) :
    Calls Try.prog 22 #[.pointer (some ⟨g, 0, none⟩)] w fun e w' => e = .returned (.int .i64 T) ∧ w = w' := by
  obtain ⟨vs, hb, hr⟩ := hh
  have c4 : w.cell? ⟨g, 4, none⟩ = some (.int .i64 s.many) := hb.cell 4
  have c6 : w.cell? ⟨g, 6, none⟩ = some (.int .i64 s.turn) := hb.cell 6
  have HC : Aside (∀ j, j < 4 → ∃ A c, w.cell? ⟨g, j, none⟩ = some (.slice A (s.L j).length c)) := ⟨fun j hj => by
    obtain ⟨A, c', hv, hc⟩ := q_slice (hr.q j hj)
    exact ⟨A, c', by rw [hb.cell j, cellsOf_get _ _ _ _ _ hj, hv]⟩⟩
  have HK := Aside.mk hk
  have HN := Aside.mk hn
  have HM : Aside (1 ≤ s.many ∧ s.many ≤ 4) := ⟨hk.m0, hk.m1⟩
  have HT : Aside (s.turn % s.many = s.turn) := ⟨Nat.mod_eq_of_lt hk.t⟩
  have hm0 : ¬ (s.many : Int) = 0 := by have := hk.m0; omega
  clear hb hr hk hn
  go_enter Try.func22, Try.ntmps22
  go_wp2
  go_loop [3] (fun i => ∃ k : Nat, i = .int .i64 k ∧ Aside (NextRel s d k)) (fun i => (T + s.many - (intOf i).toNat) % s.many)
  case atStart => exact ⟨s.turn, rfl, ⟨0, Nat.zero_le _, HT.out.symm⟩⟩
  case round =>
    obtain ⟨k, rfl, HR⟩ := hrel
    have hk4 : k < s.many := by
      obtain ⟨e, _, h2⟩ := HR.out
      rw [h2]
      exact Nat.mod_lt _ HM.out.1
    have hj' : (k : Int) < 4 := by have := HM.out.2; omega
    have hj0 : (0 : Int) ≤ k := by omega
    obtain ⟨A, c, hc⟩ := HC.out k (by have := HM.out.2; omega)
    have hw : IntKind.i64.wrap ((k : Int) + 1) = (k : Int) + 1 := IntWalk.i64_in _ (by omega)
    by_cases hz : (s.L k).length = 0
    · rw [hz] at hc
      go_wp2
      obtain ⟨e, he, rfl⟩ := HR.out
      have hed : e ≠ d := by
        rintro rfl
        have := HN.out.has
        rw [HN.out.eq] at this
        exact this (List.eq_nil_of_length_eq_zero hz)
      have hcast : ((((s.turn + e) % s.many : Nat) : Int) + 1) % (s.many : Int) = (((s.turn + (e + 1)) % s.many : Nat) : Int) := by
        rw [show s.turn + (e + 1) = s.turn + e + 1 by omega, ← succ_mod HM.out.1 HM.out.2]
        simp
      rw [hcast]
      refine ⟨⟨_, rfl, ⟨e + 1, by omega, rfl⟩⟩, ?_⟩
      show (T + s.many - ((((s.turn + (e + 1)) % s.many : Nat) : Int)).toNat) % s.many < (T + s.many - ((((s.turn + e) % s.many : Nat) : Int)).toNat) % s.many
      rw [Int.toNat_natCast, Int.toNat_natCast, HN.out.eq, dist_eq HM.out.1 HM.out.2 HK.out.t HN.out.lt' (by omega), dist_eq HM.out.1 HM.out.2 HK.out.t HN.out.lt' (by omega)]
      omega
    · have hz' : ¬ ((s.L k).length : Int) = 0 := by omega
      go_wp2
      go_ret
      obtain ⟨e, he, rfl⟩ := HR.out
      have hed : e = d := by
        apply Classical.byContradiction
        intro hne
        have := HN.out.none e (by omega)
        exact hz (by rw [this]; rfl)
      subst hed
      exact ⟨by rw [HN.out.eq]; rfl, rfl⟩

def St.pop (s : St) (T : Nat) : St := { s with L := upd s.L T ((s.L T).drop 1), turn := (T + 1) % s.many }
theorem St.pop_ok {s : St} {T : Nat} (h : s.ok) : (s.pop T).ok := by
  refine ⟨h.m0, h.m1, h.d0, h.d1, Nat.mod_lt _ (by have := h.m0; omega), fun k => ?_, fun k hk => ?_⟩
  · show (upd s.L T _ k).length ≤ s.depth
    by_cases hkj : k = T
    · subst hkj
      rw [upd_same, List.length_drop]
      have := h.len k
      omega
    · rw [upd_ne _ _ hkj]
      exact h.len k
  · show upd s.L T _ k = []
    have hk' : s.many ≤ k := hk
    by_cases hkj : k = T
    · subst hkj
      rw [upd_same, h.none k hk']
      rfl
    · rw [upd_ne _ _ hkj]
      exact h.none k hk'
theorem St.pop_all (s : St) {T : Nat} (hT : T < 4) (hn : s.L T ≠ []) : (s.pop T).all + 1 = s.all := by
  have h0 : 0 < (s.L T).length := List.length_pos_iff.2 hn
  unfold St.all St.pop
  rcases four hT with rfl | rfl | rfl | rfl <;> simp [upd] <;> omega

theorem pop_nil (w : World) : Calls Try.prog 12 #[.pointer none] w fun e w' => e = .returned (.tuple #[.int .i64 0, .string ⟨#[]⟩, .int .i64 2]) ∧ w = w' := by
  go_enter Try.func12, Try.ntmps12
  go_wp2
  go_ret3
  exact ⟨rfl, rfl⟩
set_option maxHeartbeats 1000000 in
theorem pop_empty (g : Nat) (s : St) (w : World) (hh : Held w g s) (h : s.all = 0) : Calls Try.prog 12 #[.pointer (some ⟨g, 0, none⟩)] w fun e w' => e = .returned (.tuple #[.int .i64 0, .string ⟨#[]⟩, .int .i64 23]) ∧ w = w' := by
  obtain ⟨vs, hb, hr⟩ := hh
  have c7 : w.cell? ⟨g, 7, none⟩ = some (.int .i64 s.all) := hb.cell 7
  rw [h] at c7
  clear hb hr h
  go_enter Try.func12, Try.ntmps12
  go_wp2
  go_ret3
  exact ⟨rfl, rfl⟩
set_option maxHeartbeats 2000000 in
theorem pop_calls (g : Nat) (s : St) (d T : Nat) (x : ByteArray) (xs : List ByteArray) (w : World) (hh : Held w g s) (hk : s.ok) (hn : s.isNext d T) (hx : s.L T = x :: xs) :
    Calls Try.prog 12 #[.pointer (some ⟨g, 0, none⟩)] w fun e w' => e = .returned (.tuple #[.int .i64 T, .string x, .int .i64 0]) ∧ PutPost w g (s.pop T) w' := by
  have HH := Aside.mk hh
  obtain ⟨vs, hb, hr⟩ := hh
  have hT := hn.lt
  have hT4 : T < 4 := by have := hk.m1; omega
  have hall := St.pop_all s hT4 hn.has
  have hle := hk.all_le
  obtain ⟨A, c', hv, hc⟩ := q_slice (hr.q T hT4)
  have hq := hr.q T hT4
  rw [hv] at hq
  have hln : (s.L T).length = xs.length + 1 := by rw [hx]; rfl
  obtain ⟨ad, rfl, hcells⟩ := q_cells hq (by omega)
  have cx : w.cell? ad = some (.string x) := by
    have := hcells 0 (.string x) (by rw [hx]; rfl)
    rw [show ad.add 0 = ad by cases ad with | mk b o p => cases p <;> simp [Addr.add]] at this
    exact this
  have cj : w.cell? ⟨g, T, none⟩ = some (.slice (some ad) (xs.length + 1) c') := by rw [hb.cell T, cellsOf_get _ _ _ _ _ hT4, hv, hln]
  have c4 : w.cell? ⟨g, 4, none⟩ = some (.int .i64 s.many) := hb.cell 4
  have c6 : w.cell? ⟨g, 6, none⟩ = some (.int .i64 s.turn) := hb.cell 6
  have c7 : w.cell? ⟨g, 7, none⟩ = some (.int .i64 s.all) := hb.cell 7
  have fj := hb.frozen T
  have hj' : (T : Int) < 4 := by omega
  have hj0 : (0 : Int) ≤ T := by omega
  have h7 : ¬ (s.all : Int) = 0 := by omega
  have hm0 : ¬ (s.many : Int) = 0 := by have := hk.m0; omega
  have hw1 : IntKind.i64.wrap ((T : Int) + 1) = (T : Int) + 1 := IntWalk.i64_in _ (by omega)
  have hw2 : IntKind.i64.wrap ((s.all : Int) - 1) = (s.all : Int) - 1 := IntWalk.i64_in _ (by omega)
  have HCUT : Aside (∀ W : World, (Instr.slice 35 (.slice (some ad) (xs.length + 1) c') (some (.int .i64 1)) none none).run Try.prog W = .ok (.slice (if c' = 1 then some ad else some (ad.add 1)) xs.length (c' - 1)) W) := ⟨by
    obtain ⟨i, hi, hz⟩ := Option.map_eq_some_iff.1 info9
    simp only [Prod.mk.injEq] at hz
    have := cut_from (P := Try.prog) 35 9 .i64 under35 hi 1 hz.2.1 (some ad) (xs.length + 1) c' 1 (by omega) (by omega)
    simpa using this⟩
  have HCUT2 : Aside (∃ A2, A2 = (if c' = 1 then some ad else some (ad.add 1))) := ⟨⟨_, rfl⟩⟩
  obtain ⟨A2, hA2⟩ := HCUT2.out
  rw [← hA2] at HCUT
  have hcut := HCUT.out
  have HA2 := Aside.mk hA2
  clear hA2 HCUT HCUT2
  have HQ := Aside.mk hq
  have HB := Aside.mk hb
  have HR := Aside.mk hr
  have HV := Aside.mk hv
  have HK := Aside.mk hk
  have HN := Aside.mk hn
  have HX := Aside.mk hx
  have HT := Aside.mk hT4
  have HA := Aside.mk hall
  clear hb hr hv hk hn hx hq hcells hln hc hle hT hall
  go_enter Try.func12, Try.ntmps12
  go_wp2_with (go_at_call 22; refine (next_calls _ s d T _ HH.out HK.out HN.out).mono ?_; rintro e w' ⟨rfl, rfl⟩)
  go_region
  all_goals
    have hq2 : QRow w 0 9 1 (.slice A2 xs.length (c' - 1)) ((s.L T).drop 1).length (strs ((s.L T).drop 1)) := by
      have := q_drop HQ.out (k := 1) (by rw [HX.out]; simp)
      rw [HA2.out, strs_drop, List.length_drop]
      rw [HX.out] at this ⊢
      simpa using this
    have ho2 : (Value.slice A2 xs.length (c' - 1)).ownBlock = (vs T).ownBlock := by
      rw [HV.out, HA2.out]
      split
      · rfl
      · simp only [Value.ownBlock, Addr.add]
        split <;> rfl
    have hb2 := HB.out.set T (.slice A2 xs.length (c' - 1))
    rw [cellsOf_set _ _ _ _ _ HT.out] at hb2
    have hu2 : Upon (· = g) w (w.setCell ⟨g, T, none⟩ (.slice A2 xs.length (c' - 1))) := (Upon.refl (· = g) w).setg (g := g) rfl _ _
    change Exit.then _ _ _ _ (w.drew.setCell ⟨g, T, none⟩ (.slice A2 xs.length (c' - 1)))
    have hb2' : Blk (w.drew.setCell ⟨g, T, none⟩ (.slice A2 xs.length (c' - 1))) g 53 (cellsOf (upd vs T (.slice A2 xs.length (c' - 1))) s.many s.depth s.turn s.all) := hb2
    have hu2' : Upon (· = g) w (w.drew.setCell ⟨g, T, none⟩ (.slice A2 xs.length (c' - 1))) := ⟨hu2.os, hu2.tape, hu2.output, hu2.size, hu2.block⟩
    clear hb2 hu2
    generalize w.drew.setCell ⟨g, T, none⟩ (.slice A2 xs.length (c' - 1)) = w2 at hb2' hu2' ⊢
    have d4 : w2.cell? ⟨g, 4, none⟩ = some (.int .i64 s.many) := hb2'.cell 4
    have d6 : w2.cell? ⟨g, 6, none⟩ = some (.int .i64 s.turn) := hb2'.cell 6
    have d7 : w2.cell? ⟨g, 7, none⟩ = some (.int .i64 s.all) := hb2'.cell 7
    have f6 := hb2'.frozen 6
    have f7 := hb2'.frozen 7
    have HB2 := Aside.mk hb2'
    have HU2 := Aside.mk hu2'
    have HQ2 := Aside.mk hq2
    have HO2 := Aside.mk ho2
    clear hb2' hu2' hq2 ho2
    go_wp2
    go_ret3
    have e1 : ((T : Int) + 1) % (s.many : Int) = (((T + 1) % s.many : Nat) : Int) := by simp
    have e2 : (s.all : Int) - 1 = ((s.pop T).all : Int) := by have := HA.out; omega
    have hb3 : Blk ((w2.setCell ⟨g, 6, none⟩ (.int .i64 (((T : Int) + 1) % (s.many : Int)))).setCell ⟨g, 7, none⟩ (.int .i64 ((s.all : Int) - 1))) g 53 (cellsOf (upd vs T (.slice A2 xs.length (c' - 1))) s.many s.depth ((T + 1) % s.many) (s.pop T).all) := by
      have := (HB2.out.set 6 (.int .i64 (((T : Int) + 1) % (s.many : Int)))).set 7 (.int .i64 ((s.all : Int) - 1))
      rw [e1, e2] at this ⊢
      exact this
    have hput := put_done HB.out HR.out HT.out HQ2.out ⟨rfl, rfl, rfl, Nat.le_refl _, fun _ _ _ => rfl⟩ (.inl HO2.out) hb3 ((HU2.out.setg (g := g) rfl _ _).setg (g := g) rfl _ _)
    exact ⟨rfl, ⟨_, hb3, hput.1⟩, hput.2⟩
end Go.Proofs.Ytjhpeelgehchiaa
