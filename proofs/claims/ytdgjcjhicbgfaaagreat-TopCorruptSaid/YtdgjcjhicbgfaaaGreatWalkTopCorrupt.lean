/- TopCorrupt's walk, all of its conditions shown. Conditions: the messages, the frame's number and the change read as data. -/
import Derived.Test.YtdgjcjhicbgfaaaGreatVa
import Derived.Test.YtdgjcjhicbgfaaaGreatBf
import Derived.Test.YtdgjcjhicbgfaaaGreatPd
set_option linter.unusedVariables false
set_option linter.unusedSimpArgs false
namespace Go.Proofs.YtdgjcjhicbgfaaaGreat
open Go.RowKit Go.Lib
theorem isTrue_one : ∀ x : Option (AV × St), isTrue x = true → isTrue1 x = true
  | some (.bool true, _), _ => rfl
theorem awake_yes : isTrue1 (callA C1 3000 7 [] ⟨.nil, 0⟩) = true := isTrue_one _ awakeA
theorem topCorrupt_walk (a : Option Addr) (len cap : Nat) (L : Nat → ByteArray) (fr h0 h1 : Int) (w : World) (hs : Sl w a len 1 isStr L)
    (hf : -9223372036854775808 ≤ fr ∧ fr ≤ 9223372036854775807) (hh0 : -9223372036854775808 ≤ h0 ∧ h0 ≤ 9223372036854775807) (hh1 : -9223372036854775808 ≤ h1 ∧ h1 ≤ 9223372036854775807) :
    Calls Tryz.prog 3 #[.slice a len cap, .int .i64 fr, .agg #[.int .i64 h0, .int .i64 h1]] w fun e w' => e = .returned (.bool true) ∧ Below w.heap.size w w' :=
  top_walk c1ok awake_yes a len cap L fr h0 h1 w hs hf hh0 hh1
end Go.Proofs.YtdgjcjhicbgfaaaGreat
