/- The walk of PoliceConforms. Conditions: none. -/
import Derived.Test.YtkckfghmdkeobaaRefC
namespace Go.Proofs.Ytkckfghmdkeobaa
open Go.RowKit
set_option linter.unusedVariables false
set_option maxRecDepth 100000 in
set_option maxHeartbeats 2000000 in
theorem policeConforms_in (r : Rul) (a1 : Option Addr) (n cap1 : Nat) (D : Nat → Int) (a2 : Option Addr) (m cap2 : Nat) (C : Nat → Int) (w : World) (hd : IntsAt w a1 n D) (hc : IntsAt w a2 m C) (h1 : n ≤ 100) (h2 : m ≤ 100) :
    Calls Try.prog 8 #[.agg #[.int .i64 r.smax, .int .i64 r.bag, .int .i64 r.jit, .bool r.fr], .slice a1 n cap1, .slice a2 m cap2] w fun e w' => e = .returned (.bool true) ∧ Below w.heap.size w w' := by
  have HD := Aside.mk hd
  have HC := Aside.mk hc
  clear hd hc
  go_enter Try.func8, Try.ntmps8
  go_wp2_with fail
  have hba : Below w.heap.size w (w.alloc (.cells r.cells 23)) := (Below.refl _ _).alloc (Nat.le_refl _) _
  have hb : Blk (w.alloc (.cells r.cells 23)) w.heap.size 23 r.cells := Blk.new _ _ _
  change Code.wp _ _ _ _ (w.alloc (.cells r.cells 23))
  generalize w.alloc (.cells r.cells 23) = wa at hba hb ⊢
  have HA := Aside.mk hba
  have y0 := fun x : Cls wa => x.cell (show wa.cell? ⟨w.heap.size, 0, none⟩ = some (.int .i64 r.smax) from hb.cell 0)
  have y1 := fun x : Cls wa => x.cell (show wa.cell? ⟨w.heap.size, 1, none⟩ = some (.int .i64 r.bag) from hb.cell 1)
  have y2 := fun x : Cls wa => x.cell (show wa.cell? ⟨w.heap.size, 2, none⟩ = some (.int .i64 r.jit) from hb.cell 2)
  have y3 := fun x : Cls wa => x.cell (show wa.cell? ⟨w.heap.size, 3, none⟩ = some (.bool r.fr) from hb.cell 3)
  have ND : Aside (∀ x : Cls wa, IntsAt x.at_ a1 n D ∧ IntsAt x.at_ a2 m C) := ⟨fun x => ⟨(HD.out.below HA.out).below x.below, (HC.out.below HA.out).below x.below⟩⟩
  clear hba hb
  refine region_cls (by kernel_rfl) (by kernel_rfl) ?_
  repeat (go_big_quiet_step ((first
    | (go_at_call 20; exact Cls.calls _ ((conf_calls r _ _ _ D _ _ _ C _ (ND.out _).1 (ND.out _).2).mono fun _ _ h => confB_of h))
    | (go_at_call 13; exact Cls.calls _ (plain_calls r _))
    | (go_at_call 21; exact Cls.calls _ ((rconf_calls r _ _ _ D _ _ _ C _ (ND.out _).1 (ND.out _).2).mono fun _ _ h => confB_of h))
    | (go_at_call 11; exact Cls.calls _ (awake_calls _)))))
  refine wpQuiet_nil ?_
  intro _ hw'
  obtain ⟨x, hw''⟩ := hw'
  subst hw''
  have hu := x.below
  go_wp2
  go_ret
  exact ⟨rfl, below_then HA.out HA.out.size hu⟩
set_option maxRecDepth 100000 in
set_option maxHeartbeats 1000000 in
theorem policeConforms_out (r : Rul) (a1 : Option Addr) (n cap1 : Nat) (a2 : Option Addr) (m cap2 : Nat) (w : World) (m1 : n ≤ 9223372036854775807) (m2 : m ≤ 9223372036854775807) (h : 100 < n ∨ (¬ 100 < n ∧ 100 < m)) :
    Calls Try.prog 8 #[.agg #[.int .i64 r.smax, .int .i64 r.bag, .int .i64 r.jit, .bool r.fr], .slice a1 n cap1, .slice a2 m cap2] w fun e w' => e = .returned (.bool true) ∧ Below w.heap.size w w' := by
  rcases h with h | ⟨h1, h⟩
  all_goals
    go_enter Try.func8, Try.ntmps8
    go_wp2_with fail
    have hba : Below w.heap.size w (w.alloc (.cells r.cells 23)) := (Below.refl _ _).alloc (Nat.le_refl _) _
    change Calls _ _ _ (w.alloc (.cells r.cells 23)) _
    generalize w.alloc (.cells r.cells 23) = wa at hba ⊢
    have HA := Aside.mk hba
    clear hba
    refine (awake_calls _).mono ?_
    rintro e w1 ⟨rfl, hu⟩
    have HU := Aside.mk hu
    clear hu
    go_wp2
    go_ret
    exact ⟨rfl, below_then HA.out HA.out.size HU.out⟩
theorem policeConforms_walk (r : Rul) (a1 : Option Addr) (n cap1 : Nat) (D : Nat → Int) (a2 : Option Addr) (m cap2 : Nat) (C : Nat → Int) (w : World) (_ : (-9223372036854775808 ≤ r.smax ∧ r.smax ≤ 9223372036854775807) ∧ (-9223372036854775808 ≤ r.bag ∧ r.bag ≤ 9223372036854775807) ∧ (-9223372036854775808 ≤ r.jit ∧ r.jit ≤ 9223372036854775807)) (hd : Sl w a1 n 1 isInt D) (hc : Sl w a2 m 1 isInt C) :
    Calls Try.prog 8 #[.agg #[.int .i64 r.smax, .int .i64 r.bag, .int .i64 r.jit, .bool r.fr], .slice a1 n cap1, .slice a2 m cap2] w fun e w' => e = .returned (.bool true) ∧ Below w.heap.size w w' := by
  by_cases h : 100 < n ∨ (¬ 100 < n ∧ 100 < m)
  · exact policeConforms_out r a1 n cap1 a2 m cap2 w hd.at_.1 hc.at_.1 h
  · exact policeConforms_in r a1 n cap1 D a2 m cap2 C w hd.at_ hc.at_ (by omega) (by omega)
end Go.Proofs.Ytkckfghmdkeobaa
