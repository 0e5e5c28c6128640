/-
  No cell of these rows narrows 'for every input' (looked for: loops, veiled, ifaces, maps, wideKeys, modest, calm, conditions, laid).
  DERIVED. THE GIVEN ROWS OF THIS SEAT. 6 by the template 'for every input the law returns true; each argument reads behind the call as it read before'; 0 by the template 'total and deterministic' (their statements: YtdihndaphkibbaaTotals.lean).
  GIVEN WITH THE SEED: the statements are not yours to turn. If you find one false, say at which input.
  Laid BY PROGRAM, IN A SANDBOX (cutbox-rows.mjs): the forced cells as the released guide's own fill.sh prints them over the translation 522d6a5a90897c39… (all of the seat's roots in one cut). By AI agents, Wed Nov 11 2026. No macro, syntax, notation, axiom, sorry.
-/
import Derived.Test.YtdihndaphkibbaaChecked
import GoSem.Claim
import GoSem.ClaimJoined
import GoSem.ClaimMapViews
import Derived.JoinedTies
import Derived.KernelRfl
namespace Go.Proofs.Ytdihndaphkibbaa
/- THE CELL 'sum', in the pinned program and in every row, IS THE sha256 OF THE DUMP (.gsa) THAT YtdihndaphkibbaaProg.lean LOADS. Nothing in Lean hashes anything: it is a label: what it is worth is what the hold of that sum in a sandbox is worth. -/
noncomputable def Try.pinned : Pinned := { name := "ytdihndaphkibbaa", sum := "522d6a5a90897c39b82430fcd7196c2c6cd0ffefcdc7a5fa3203384113255b7a", checked := Try.checked }
namespace Rows
def none {H : Type} : Left H := { results := [], args := [] }

/-- 'pitotlaw16.IntegSteps': WHATEVER THE INPUT: true; the input reads as it did. -/
def integStepsSpec : ChangeSpec := { name := "integSteps", fn := fun _ => fun
  | [d1, d2] => { results := [.lit (.bool true)], args := [d1, d2] }
  | _ => none }
def integStepsRow : OpenClaim := { program := "ytdihndaphkibbaa", sum := "522d6a5a90897c39b82430fcd7196c2c6cd0ffefcdc7a5fa3203384113255b7a", func := "pitot/pitotlaw16.IntegSteps", spec := "integSteps", unfollowed := true, recurses := true, apart := false }
def IntegStepsSaid : Prop := integStepsRow.holds Try.pinned (OpenSpec.ofChange integStepsSpec)

/-- ITS FALSE NEIGHBOUR: 'it returns false'. Refute it at one input. -/
def integStepsWrong : ChangeSpec := { name := "integSteps", fn := fun _ => fun
  | [d1, d2] => { results := [.lit (.bool false)], args := [d1, d2] }
  | _ => none }
def IntegStepsWrongFalsely : Prop := integStepsRow.holds Try.pinned (OpenSpec.ofChange integStepsWrong)

/-- 'pitotlaw16.IntegComes': WHATEVER THE INPUT: true; the input reads as it did. -/
def integComesSpec : ChangeSpec := { name := "integComes", fn := fun _ => fun
  | [d] => { results := [.lit (.bool true)], args := [d] }
  | _ => none }
def integComesRow : OpenClaim := { program := "ytdihndaphkibbaa", sum := "522d6a5a90897c39b82430fcd7196c2c6cd0ffefcdc7a5fa3203384113255b7a", func := "pitot/pitotlaw16.IntegComes", spec := "integComes", unfollowed := true, recurses := true, apart := false }
def IntegComesSaid : Prop := integComesRow.holds Try.pinned (OpenSpec.ofChange integComesSpec)

/-- ITS FALSE NEIGHBOUR: 'it returns false'. Refute it at one input. -/
def integComesWrong : ChangeSpec := { name := "integComes", fn := fun _ => fun
  | [d] => { results := [.lit (.bool false)], args := [d] }
  | _ => none }
def IntegComesWrongFalsely : Prop := integComesRow.holds Try.pinned (OpenSpec.ofChange integComesWrong)

/-- 'pitotlaw16.IntegTwice': WHATEVER THE INPUT: true; the input reads as it did. -/
def integTwiceSpec : ChangeSpec := { name := "integTwice", fn := fun _ => fun
  | [d1, d2] => { results := [.lit (.bool true)], args := [d1, d2] }
  | _ => none }
def integTwiceRow : OpenClaim := { program := "ytdihndaphkibbaa", sum := "522d6a5a90897c39b82430fcd7196c2c6cd0ffefcdc7a5fa3203384113255b7a", func := "pitot/pitotlaw16.IntegTwice", spec := "integTwice", unfollowed := true, recurses := true, apart := false }
def IntegTwiceSaid : Prop := integTwiceRow.holds Try.pinned (OpenSpec.ofChange integTwiceSpec)

/-- ITS FALSE NEIGHBOUR: 'it returns false'. Refute it at one input. -/
def integTwiceWrong : ChangeSpec := { name := "integTwice", fn := fun _ => fun
  | [d1, d2] => { results := [.lit (.bool false)], args := [d1, d2] }
  | _ => none }
def IntegTwiceWrongFalsely : Prop := integTwiceRow.holds Try.pinned (OpenSpec.ofChange integTwiceWrong)

/-- 'pitotlaw16.IntegJudges': WHATEVER THE INPUT: true; the input reads as it did. -/
def integJudgesSpec : ChangeSpec := { name := "integJudges", fn := fun _ => fun
  | [d] => { results := [.lit (.bool true)], args := [d] }
  | _ => none }
def integJudgesRow : OpenClaim := { program := "ytdihndaphkibbaa", sum := "522d6a5a90897c39b82430fcd7196c2c6cd0ffefcdc7a5fa3203384113255b7a", func := "pitot/pitotlaw16.IntegJudges", spec := "integJudges", unfollowed := true, recurses := true, apart := false }
def IntegJudgesSaid : Prop := integJudgesRow.holds Try.pinned (OpenSpec.ofChange integJudgesSpec)

/-- ITS FALSE NEIGHBOUR: 'it returns false'. Refute it at one input. -/
def integJudgesWrong : ChangeSpec := { name := "integJudges", fn := fun _ => fun
  | [d] => { results := [.lit (.bool false)], args := [d] }
  | _ => none }
def IntegJudgesWrongFalsely : Prop := integJudgesRow.holds Try.pinned (OpenSpec.ofChange integJudgesWrong)

/-- 'pitotlaw16.IntegNil': WHATEVER THE INPUT: true; the input reads as it did. -/
def integNilSpec : ChangeSpec := { name := "integNil", fn := fun _ => fun
  | [d] => { results := [.lit (.bool true)], args := [d] }
  | _ => none }
def integNilRow : OpenClaim := { program := "ytdihndaphkibbaa", sum := "522d6a5a90897c39b82430fcd7196c2c6cd0ffefcdc7a5fa3203384113255b7a", func := "pitot/pitotlaw16.IntegNil", spec := "integNil", unfollowed := true, recurses := true, apart := false }
def IntegNilSaid : Prop := integNilRow.holds Try.pinned (OpenSpec.ofChange integNilSpec)

/-- ITS FALSE NEIGHBOUR: 'it returns false'. Refute it at one input. -/
def integNilWrong : ChangeSpec := { name := "integNil", fn := fun _ => fun
  | [d] => { results := [.lit (.bool false)], args := [d] }
  | _ => none }
def IntegNilWrongFalsely : Prop := integNilRow.holds Try.pinned (OpenSpec.ofChange integNilWrong)

/-- 'pitotlaw16.IntegAnew': WHATEVER THE INPUT: true; the input reads as it did. -/
def integAnewSpec : ChangeSpec := { name := "integAnew", fn := fun _ => fun
  | [d1, d2] => { results := [.lit (.bool true)], args := [d1, d2] }
  | _ => none }
def integAnewRow : OpenClaim := { program := "ytdihndaphkibbaa", sum := "522d6a5a90897c39b82430fcd7196c2c6cd0ffefcdc7a5fa3203384113255b7a", func := "pitot/pitotlaw16.IntegAnew", spec := "integAnew", unfollowed := true, recurses := true, apart := false }
def IntegAnewSaid : Prop := integAnewRow.holds Try.pinned (OpenSpec.ofChange integAnewSpec)

/-- ITS FALSE NEIGHBOUR: 'it returns false'. Refute it at one input. -/
def integAnewWrong : ChangeSpec := { name := "integAnew", fn := fun _ => fun
  | [d1, d2] => { results := [.lit (.bool false)], args := [d1, d2] }
  | _ => none }
def IntegAnewWrongFalsely : Prop := integAnewRow.holds Try.pinned (OpenSpec.ofChange integAnewWrong)

/- THE SECOND FORM. 'bulk': how many values and letters a reading holds, each counted each time it is reached (what is shared counts as often as it is met; a slice's spare places count too). A statement '..UptoSaid' is the law's where the arguments, and the package variables that the reading takes, are together of bulk at most 1048576: NARROWER than '..Said'. Prove '..Said' where nothing that the law and all that it calls make is longer than what came in: it says more and counts as full. Else prove '..UptoSaid'. A law counts once. -/
mutual
def uptoBulk {H : Type} : DataW H → Nat
  | .lit (.string bytes) => bytes.length + 1
  | .lit _ => 1
  | .nil => 1
  | .ptr d => uptoBulk d + 1
  | .slice elems spare => uptoBulkAll elems + uptoBulkAll spare + 1
  | .agg parts => uptoBulkAll parts + 1
  | .iface _ d => uptoBulk d + 1
  | .map entries => uptoBulkEntries entries + 1
  | .held _ => 1
def uptoBulkAll {H : Type} : List (DataW H) → Nat
  | [] => 0
  | d :: r => uptoBulk d + uptoBulkAll r
def uptoBulkEntries {H : Type} : List (Lit × DataW H) → Nat
  | [] => 0
  | x :: r => uptoBulkEntry x + uptoBulkEntries r
def uptoBulkEntry {H : Type} : Lit × DataW H → Nat
  | (.string bytes, d) => bytes.length + uptoBulk d + 1
  | (_, d) => uptoBulk d + 1
 end
def uptoSmall : (H : Type) → List (DataW H) → Bool := fun _ ds => decide (uptoBulkAll ds ≤ 1048576)
def OpenSpec.upto (s : _root_.Go.ChangeSpec) : _root_.Go.OpenSpec := { _root_.Go.OpenSpec.ofChange s with cond := some uptoSmall }

/-- 'pitotlaw16.IntegSteps', WHERE WHAT IT READS IS OF BULK AT MOST 1048576: true; the input reads as it did. -/
def integStepsUptoRow : OpenClaim := { program := "ytdihndaphkibbaa", sum := "522d6a5a90897c39b82430fcd7196c2c6cd0ffefcdc7a5fa3203384113255b7a", func := "pitot/pitotlaw16.IntegSteps", spec := "integSteps", unfollowed := true, recurses := true, apart := false, narrowed := true }
def IntegStepsUptoSaid : Prop := integStepsUptoRow.holds Try.pinned (OpenSpec.upto integStepsSpec)

/-- 'pitotlaw16.IntegComes', WHERE WHAT IT READS IS OF BULK AT MOST 1048576: true; the input reads as it did. -/
def integComesUptoRow : OpenClaim := { program := "ytdihndaphkibbaa", sum := "522d6a5a90897c39b82430fcd7196c2c6cd0ffefcdc7a5fa3203384113255b7a", func := "pitot/pitotlaw16.IntegComes", spec := "integComes", unfollowed := true, recurses := true, apart := false, narrowed := true }
def IntegComesUptoSaid : Prop := integComesUptoRow.holds Try.pinned (OpenSpec.upto integComesSpec)

/-- 'pitotlaw16.IntegTwice', WHERE WHAT IT READS IS OF BULK AT MOST 1048576: true; the input reads as it did. -/
def integTwiceUptoRow : OpenClaim := { program := "ytdihndaphkibbaa", sum := "522d6a5a90897c39b82430fcd7196c2c6cd0ffefcdc7a5fa3203384113255b7a", func := "pitot/pitotlaw16.IntegTwice", spec := "integTwice", unfollowed := true, recurses := true, apart := false, narrowed := true }
def IntegTwiceUptoSaid : Prop := integTwiceUptoRow.holds Try.pinned (OpenSpec.upto integTwiceSpec)

/-- 'pitotlaw16.IntegJudges', WHERE WHAT IT READS IS OF BULK AT MOST 1048576: true; the input reads as it did. -/
def integJudgesUptoRow : OpenClaim := { program := "ytdihndaphkibbaa", sum := "522d6a5a90897c39b82430fcd7196c2c6cd0ffefcdc7a5fa3203384113255b7a", func := "pitot/pitotlaw16.IntegJudges", spec := "integJudges", unfollowed := true, recurses := true, apart := false, narrowed := true }
def IntegJudgesUptoSaid : Prop := integJudgesUptoRow.holds Try.pinned (OpenSpec.upto integJudgesSpec)

/-- 'pitotlaw16.IntegNil', WHERE WHAT IT READS IS OF BULK AT MOST 1048576: true; the input reads as it did. -/
def integNilUptoRow : OpenClaim := { program := "ytdihndaphkibbaa", sum := "522d6a5a90897c39b82430fcd7196c2c6cd0ffefcdc7a5fa3203384113255b7a", func := "pitot/pitotlaw16.IntegNil", spec := "integNil", unfollowed := true, recurses := true, apart := false, narrowed := true }
def IntegNilUptoSaid : Prop := integNilUptoRow.holds Try.pinned (OpenSpec.upto integNilSpec)

/-- 'pitotlaw16.IntegAnew', WHERE WHAT IT READS IS OF BULK AT MOST 1048576: true; the input reads as it did. -/
def integAnewUptoRow : OpenClaim := { program := "ytdihndaphkibbaa", sum := "522d6a5a90897c39b82430fcd7196c2c6cd0ffefcdc7a5fa3203384113255b7a", func := "pitot/pitotlaw16.IntegAnew", spec := "integAnew", unfollowed := true, recurses := true, apart := false, narrowed := true }
def IntegAnewUptoSaid : Prop := integAnewUptoRow.holds Try.pinned (OpenSpec.upto integAnewSpec)

end Rows
end Go.Proofs.Ytdihndaphkibbaa
