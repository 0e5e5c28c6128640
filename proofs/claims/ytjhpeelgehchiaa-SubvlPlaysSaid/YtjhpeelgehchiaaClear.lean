/- Clear: what it leaves. Conditions: the queues lie. -/
import Derived.Test.YtjhpeelgehchiaaPop
namespace Go.Proofs.Ytjhpeelgehchiaa
open Go.RowKit Go.Proofs.YtjhpeelgehchiaaW.PrintWords
set_option linter.unusedVariables false

theorem clear_nil (w : World) : Calls Try.prog 19 #[.pointer none] w fun e w' => e = .returned (.tuple #[]) ∧ w = w' := by
  go_enter Try.func19, Try.ntmps19
  go_wp2
  go_end0
  exact ⟨rfl, rfl⟩
theorem clear_done {w : World} {g : Nat} {vs : Nat → Value} {m d t a : Nat} (hb : Blk w g 53 (cellsOf vs m d t a)) : PutPost w g (St.fresh m d) (((((((((w.setCell ⟨g, 0, none⟩ (.slice none 0 0)).setCell ⟨g, 1, none⟩ (.slice none 0 0)).setCell ⟨g, 2, none⟩ (.slice none 0 0)).setCell ⟨g, 3, none⟩ (.slice none 0 0)).setCell ⟨g, 4, none⟩ (.int .i64 m)).setCell ⟨g, 5, none⟩ (.int .i64 d)).setCell ⟨g, 6, none⟩ (.int .i64 0)).setCell ⟨g, 7, none⟩ (.int .i64 0))).drew := by
  have h0 : Blk (w.setCell ⟨g, 0, none⟩ (.slice none 0 0)) g 53 #[.slice none 0 0, vs 1, vs 2, vs 3, .int .i64 m, .int .i64 d, .int .i64 t, .int .i64 a] := hb.set 0 _
  have h1 : Blk ((w.setCell ⟨g, 0, none⟩ (.slice none 0 0)).setCell ⟨g, 1, none⟩ (.slice none 0 0)) g 53 #[.slice none 0 0, .slice none 0 0, vs 2, vs 3, .int .i64 m, .int .i64 d, .int .i64 t, .int .i64 a] := h0.set 1 _
  have h2 : Blk (((w.setCell ⟨g, 0, none⟩ (.slice none 0 0)).setCell ⟨g, 1, none⟩ (.slice none 0 0)).setCell ⟨g, 2, none⟩ (.slice none 0 0)) g 53 #[.slice none 0 0, .slice none 0 0, .slice none 0 0, vs 3, .int .i64 m, .int .i64 d, .int .i64 t, .int .i64 a] := h1.set 2 _
  have h3 : Blk ((((w.setCell ⟨g, 0, none⟩ (.slice none 0 0)).setCell ⟨g, 1, none⟩ (.slice none 0 0)).setCell ⟨g, 2, none⟩ (.slice none 0 0)).setCell ⟨g, 3, none⟩ (.slice none 0 0)) g 53 #[.slice none 0 0, .slice none 0 0, .slice none 0 0, .slice none 0 0, .int .i64 m, .int .i64 d, .int .i64 t, .int .i64 a] := h2.set 3 _
  have h4 : Blk (((((w.setCell ⟨g, 0, none⟩ (.slice none 0 0)).setCell ⟨g, 1, none⟩ (.slice none 0 0)).setCell ⟨g, 2, none⟩ (.slice none 0 0)).setCell ⟨g, 3, none⟩ (.slice none 0 0)).setCell ⟨g, 4, none⟩ (.int .i64 m)) g 53 #[.slice none 0 0, .slice none 0 0, .slice none 0 0, .slice none 0 0, .int .i64 m, .int .i64 d, .int .i64 t, .int .i64 a] := h3.set 4 _
  have h5 : Blk ((((((w.setCell ⟨g, 0, none⟩ (.slice none 0 0)).setCell ⟨g, 1, none⟩ (.slice none 0 0)).setCell ⟨g, 2, none⟩ (.slice none 0 0)).setCell ⟨g, 3, none⟩ (.slice none 0 0)).setCell ⟨g, 4, none⟩ (.int .i64 m)).setCell ⟨g, 5, none⟩ (.int .i64 d)) g 53 #[.slice none 0 0, .slice none 0 0, .slice none 0 0, .slice none 0 0, .int .i64 m, .int .i64 d, .int .i64 t, .int .i64 a] := h4.set 5 _
  have h6 : Blk (((((((w.setCell ⟨g, 0, none⟩ (.slice none 0 0)).setCell ⟨g, 1, none⟩ (.slice none 0 0)).setCell ⟨g, 2, none⟩ (.slice none 0 0)).setCell ⟨g, 3, none⟩ (.slice none 0 0)).setCell ⟨g, 4, none⟩ (.int .i64 m)).setCell ⟨g, 5, none⟩ (.int .i64 d)).setCell ⟨g, 6, none⟩ (.int .i64 0)) g 53 #[.slice none 0 0, .slice none 0 0, .slice none 0 0, .slice none 0 0, .int .i64 m, .int .i64 d, .int .i64 0, .int .i64 a] := h5.set 6 _
  have h7 : Blk ((((((((w.setCell ⟨g, 0, none⟩ (.slice none 0 0)).setCell ⟨g, 1, none⟩ (.slice none 0 0)).setCell ⟨g, 2, none⟩ (.slice none 0 0)).setCell ⟨g, 3, none⟩ (.slice none 0 0)).setCell ⟨g, 4, none⟩ (.int .i64 m)).setCell ⟨g, 5, none⟩ (.int .i64 d)).setCell ⟨g, 6, none⟩ (.int .i64 0)).setCell ⟨g, 7, none⟩ (.int .i64 0)) g 53 #[.slice none 0 0, .slice none 0 0, .slice none 0 0, .slice none 0 0, .int .i64 m, .int .i64 d, .int .i64 0, .int .i64 0] := h6.set 7 _
  have u0 := Upon.refl (· = g) w
  have u1 := u0.setg (g := g) rfl 0 (.slice none 0 0)
  have u2 := u1.setg (g := g) rfl 1 (.slice none 0 0)
  have u3 := u2.setg (g := g) rfl 2 (.slice none 0 0)
  have u4 := u3.setg (g := g) rfl 3 (.slice none 0 0)
  have u5 := u4.setg (g := g) rfl 4 (.int .i64 m)
  have u6 := u5.setg (g := g) rfl 5 (.int .i64 d)
  have u7 := u6.setg (g := g) rfl 6 (.int .i64 0)
  have u8 := u7.setg (g := g) rfl 7 (.int .i64 0)
  have hf := fresh_held h7.drew
  exact ⟨hf.1, u8.drew.mono (fun i hi => by subst hi; exact .inl rfl), fun k hk => .inl (by rw [hf.2 k hk]; exact .inl rfl)⟩
set_option maxHeartbeats 1000000 in
theorem clear_calls (g : Nat) (s : St) (w : World) (hh : Held w g s) :
    Calls Try.prog 19 #[.pointer (some ⟨g, 0, none⟩)] w fun e w' => e = .returned (.tuple #[]) ∧ PutPost w g (St.fresh s.many s.depth) w' := by
  have HH := Aside.mk hh
  obtain ⟨vs, hb, hr⟩ := hh
  have c0 : w.cell? ⟨g, 0, none⟩ = some (vs 0) := hb.cell 0
  have c1 : w.cell? ⟨g, 1, none⟩ = some (vs 1) := hb.cell 1
  have c2 : w.cell? ⟨g, 2, none⟩ = some (vs 2) := hb.cell 2
  have c3 : w.cell? ⟨g, 3, none⟩ = some (vs 3) := hb.cell 3
  have c4 : w.cell? ⟨g, 4, none⟩ = some (.int .i64 s.many) := hb.cell 4
  have c5 : w.cell? ⟨g, 5, none⟩ = some (.int .i64 s.depth) := hb.cell 5
  have c6 : w.cell? ⟨g, 6, none⟩ = some (.int .i64 s.turn) := hb.cell 6
  have c7 : w.cell? ⟨g, 7, none⟩ = some (.int .i64 s.all) := hb.cell 7
  have f0 := hb.frozen 0
  have f1 := hb.frozen 1
  have f2 := hb.frozen 2
  have f3 := hb.frozen 3
  have f4 := hb.frozen 4
  have f5 := hb.frozen 5
  have f6 := hb.frozen 6
  have f7 := hb.frozen 7
  have HB := Aside.mk hb
  clear hb hr
  go_enter Try.func19, Try.ntmps19
  go_wp2
  go_region
  all_goals
    go_end0
    exact ⟨rfl, clear_done HB.out⟩
end Go.Proofs.Ytjhpeelgehchiaa
