/- The chapter's examples, as the statements call them: they answer true. Conditions: none. -/
import Derived.Test.YtoofekeenbllhaaBag
namespace Go.Proofs.Ytoofekeenbllhaa
open Go.RowKit

theorem aw1 : (Reg.new 0).err 5 = 0 := by decide
theorem aw2 : ((Reg.new 0).take 5).err 12504 = 26 := by decide
theorem aw3 : (((Reg.new 0).take 5).take 12504).err 12505 = 0 := by decide
theorem aw4 : boundOf 1 25001 = 2 := by decide
theorem aw5 : ((Reg.new 0).take 5).cnt ≤ 1125899906842624 := by decide
theorem aw6 : (((Reg.new 0).take 5).take 12504).cnt ≤ 1125899906842624 := by decide

set_option maxHeartbeats 400000 in
theorem awake_calls (w : World) : Calls Try.prog 11 #[] w fun e w' => e = .returned (.bool true) ∧ Below w.heap.size w w' := by
  have o0 := Reg.new_ok (b := 0) (by decide)
  have o1 := Reg.take_ok o0 5
  have o2 := Reg.take_ok o1 12504
  have O0 := Aside.mk o0
  have O1 := Aside.mk o1
  have O2 := Aside.mk o2
  clear o0 o1 o2
  go_enter Try.func11, Try.ntmps11
  go_wp2_with fail
  refine (new_yes _ _ (by decide)).mono ?_
  rintro e w1 ⟨rfl, hb, hu⟩
  have HB := Aside.mk hb
  have HU := Aside.mk hu
  clear hb hu
  go_wp2_with fail
  refine (take_calls _ _ _ _ HB.out O0.out (by decide)).mono ?_
  rintro e w2 ⟨rfl, hb2, hu2⟩
  rw [aw1]
  have HB2 := Aside.mk hb2
  have HU2 := Aside.mk hu2
  clear hb2 hu2
  go_wp2_with fail
  refine (take_calls _ _ _ _ HB2.out O1.out aw5).mono ?_
  rintro e w3 ⟨rfl, hb3, hu3⟩
  rw [aw2]
  have HB3 := Aside.mk hb3
  have HU3 := Aside.mk hu3
  clear hb3 hu3
  go_wp2_with fail
  refine (take_calls _ _ _ _ HB3.out O2.out aw6).mono ?_
  rintro e w4 ⟨rfl, hb4, hu4⟩
  rw [aw3]
  have HU4 := Aside.mk hu4
  clear hb4 hu4
  go_wp2_with fail
  refine (bound_yes _ _ _ (by decide) (by decide)).mono ?_
  rintro e w5 ⟨rfl, rfl⟩
  rw [aw4]
  go_wp2
  go_ret
  refine ⟨rfl, ?_⟩
  have u := (HU2.out.trans HU3.out).trans HU4.out
  exact HU.out.trans (Upon.below (B := w.heap.size) u HU.out.size (fun i hi => by omega))
end Go.Proofs.Ytoofekeenbllhaa
