/- each: it hands out where each frame lies, one behind the other. Conditions: the list lies as it lay when a round is over. -/
import Derived.Test.YtdhgallfplbhpaaFgt
import Derived.Test.YtdhgallfplbhpaaRange
namespace Go.Proofs.Ytdhgallfplbhpaa
open Go.RowKit Go.Shelf
attribute [local go_sem] Oper.semAt_some
set_option linter.unusedVariables false
def EachRd (g b off N : Nat) (W : World) : Prop := ∃ A c, W.cell? ⟨g, 0, none⟩ = some (.slice A N c) ∧ (0 < N → A = some ⟨b, off, none⟩)
set_option maxHeartbeats 2000000 in
theorem each_gives (F : Fence) (n : Nat) (h28 : F.fn 28) (hro : F.round = none) (hn : 1 ≤ n) (g b off N : Nat) (hN : N ≤ 5000) :
    Gives F n Try.prog 28 #[.pointer (some ⟨g, 0, none⟩)] N (fun i => .pointer (some ⟨b, off + i * 3, none⟩)) (EachRd g b off N) := by
  intro l J Jx W hJ hY h0
  refine callsIn_of_wp Try.func28 rfl h28 ?_ hro
  simp only [Try.ntmps28, List.size_toArray, List.length_cons, List.length_nil, Nat.reduceAdd, Nat.reduceSub, Array.replicate_succ, Array.replicate_zero, List.push_toArray, List.append_toArray, List.nil_append, List.cons_append]
  obtain ⟨A, c, hc, hA⟩ := hJ _ _ h0
  have H0 := Aside.mk h0
  have HJ := Aside.mk hJ
  have HY := Aside.mk hY
  clear h0 hJ hY hA
  gi_wp2
  gi_loopw [10] (fun p wr => ∃ i : Nat, i ≤ N ∧ p = .int .i64 i ∧ Aside (J i wr)) (fun p _ => N - (intOf p).toNat)
  case atStart => exact ⟨0, by omega, rfl, H0⟩
  case round =>
    obtain ⟨i, hi, rfl, HI⟩ := hrel
    by_cases hlt : i < N
    · obtain ⟨A, c, hc, hA⟩ := HJ.out _ _ HI.out
      obtain rfl := hA (by omega)
      obtain ⟨fn, tmps, assign, body, hy, hR⟩ := HY.out i wr hlt HI.out
      have HR := Aside.mk hR
      clear hA hR
      have hi0 : (0 : Int) ≤ i := by omega
      have hi1 : (i : Int) < N := by omega
      have hw : IntKind.i64.wrap ((i : Int) + 1) = (i : Int) + 1 := IntWalk.i64_in _ (by omega)
      gi_wp2
      refine HR.out.mono ?_
      rintro e W3 (⟨rfl, hJ3⟩ | ⟨rfl, hJx3⟩)
      · have HJ3 := Aside.mk hJ3
        clear hJ3
        gi_wp2
        exact ⟨⟨i + 1, by omega, by simp, HJ3⟩, by simp [intOf]; omega⟩
      · have HJ3 := Aside.mk hJx3
        clear hJx3
        gi_wp2
        refine bodyPost_ret (results_none rfl _ _ _) rfl ?_
        exact ⟨⟨_, rfl⟩, .inr HJ3.out⟩
    · have hi1 : ¬ (i : Int) < N := by omega
      have hiN : i = N := by omega
      subst hiN
      gi_wp2
      go_end0
      exact ⟨⟨_, rfl⟩, .inl HI.out⟩
end Go.Proofs.Ytdhgallfplbhpaa
