/-
  No cell of these rows narrows 'for every input' (looked for: loops, veiled, ifaces, maps, wideKeys, modest, calm, conditions, laid).
  DERIVED. THE GIVEN ROWS OF THIS SEAT. 6 by the template 'for every input the law returns true; each argument reads behind the call as it read before'; 0 by the template 'total and deterministic' (their statements: YtdhgallfplbhpaaTotals.lean).
  GIVEN WITH THE SEED: the statements are not yours to turn. If you find one false, say at which input.
  Laid BY PROGRAM, IN A SANDBOX (cutbox-rows.mjs): the forced cells as the released guide's own fill.sh prints them over the translation 8c02b47481bc2322… (all of the seat's roots in one cut). By AI agents, Wed Nov 11 2026. No macro, syntax, notation, axiom, sorry.
-/
import Derived.Test.YtdhgallfplbhpaaChecked
import GoSem.Claim
import GoSem.ClaimJoined
import GoSem.ClaimMapViews
import Derived.JoinedTies
import Derived.KernelRfl
namespace Go.Proofs.Ytdhgallfplbhpaa
/- THE CELL 'sum', in the pinned program and in every row, IS THE sha256 OF THE DUMP (.gsa) THAT YtdhgallfplbhpaaProg.lean LOADS. Nothing in Lean hashes anything: it is a label: what it is worth is what the hold of that sum in a sandbox is worth. -/
noncomputable def Try.pinned : Pinned := { name := "ytdhgallfplbhpaa", sum := "8c02b47481bc23227f07e656cc670f69f8380afe77bfcf567bd78de23a732d83", checked := Try.checked }
namespace Rows
def none {H : Type} : Left H := { results := [], args := [] }

/-- 'pitotlaw17.RedundLate': WHATEVER THE INPUT: true; the input reads as it did. -/
def redundLateSpec : ChangeSpec := { name := "redundLate", fn := fun _ => fun
  | [d1, d2, d3] => { results := [.lit (.bool true)], args := [d1, d2, d3] }
  | _ => none }
def redundLateRow : OpenClaim := { program := "ytdhgallfplbhpaa", sum := "8c02b47481bc23227f07e656cc670f69f8380afe77bfcf567bd78de23a732d83", func := "pitot/pitotlaw17.RedundLate", spec := "redundLate", unfollowed := true, recurses := true, apart := false }
def RedundLateSaid : Prop := redundLateRow.holds Try.pinned (OpenSpec.ofChange redundLateSpec)

/-- ITS FALSE NEIGHBOUR: 'it returns false'. Refute it at one input. -/
def redundLateWrong : ChangeSpec := { name := "redundLate", fn := fun _ => fun
  | [d1, d2, d3] => { results := [.lit (.bool false)], args := [d1, d2, d3] }
  | _ => none }
def RedundLateWrongFalsely : Prop := redundLateRow.holds Try.pinned (OpenSpec.ofChange redundLateWrong)

/-- 'pitotlaw17.RedundOnce': WHATEVER THE INPUT: true; the input reads as it did. -/
def redundOnceSpec : ChangeSpec := { name := "redundOnce", fn := fun _ => fun
  | [d1, d2] => { results := [.lit (.bool true)], args := [d1, d2] }
  | _ => none }
def redundOnceRow : OpenClaim := { program := "ytdhgallfplbhpaa", sum := "8c02b47481bc23227f07e656cc670f69f8380afe77bfcf567bd78de23a732d83", func := "pitot/pitotlaw17.RedundOnce", spec := "redundOnce", unfollowed := true, recurses := true, apart := false }
def RedundOnceSaid : Prop := redundOnceRow.holds Try.pinned (OpenSpec.ofChange redundOnceSpec)

/-- ITS FALSE NEIGHBOUR: 'it returns false'. Refute it at one input. -/
def redundOnceWrong : ChangeSpec := { name := "redundOnce", fn := fun _ => fun
  | [d1, d2] => { results := [.lit (.bool false)], args := [d1, d2] }
  | _ => none }
def RedundOnceWrongFalsely : Prop := redundOnceRow.holds Try.pinned (OpenSpec.ofChange redundOnceWrong)

/-- 'pitotlaw17.RedundAlone': WHATEVER THE INPUT: true; the input reads as it did. -/
def redundAloneSpec : ChangeSpec := { name := "redundAlone", fn := fun _ => fun
  | [d1, d2, d3] => { results := [.lit (.bool true)], args := [d1, d2, d3] }
  | _ => none }
def redundAloneRow : OpenClaim := { program := "ytdhgallfplbhpaa", sum := "8c02b47481bc23227f07e656cc670f69f8380afe77bfcf567bd78de23a732d83", func := "pitot/pitotlaw17.RedundAlone", spec := "redundAlone", unfollowed := true, recurses := true, apart := false }
def RedundAloneSaid : Prop := redundAloneRow.holds Try.pinned (OpenSpec.ofChange redundAloneSpec)

/-- ITS FALSE NEIGHBOUR: 'it returns false'. Refute it at one input. -/
def redundAloneWrong : ChangeSpec := { name := "redundAlone", fn := fun _ => fun
  | [d1, d2, d3] => { results := [.lit (.bool false)], args := [d1, d2, d3] }
  | _ => none }
def RedundAloneWrongFalsely : Prop := redundAloneRow.holds Try.pinned (OpenSpec.ofChange redundAloneWrong)

/-- 'pitotlaw17.RedundPlays': WHATEVER THE INPUT: true; the input reads as it did. -/
def redundPlaysSpec : ChangeSpec := { name := "redundPlays", fn := fun _ => fun
  | [d1, d2] => { results := [.lit (.bool true)], args := [d1, d2] }
  | _ => none }
def redundPlaysRow : OpenClaim := { program := "ytdhgallfplbhpaa", sum := "8c02b47481bc23227f07e656cc670f69f8380afe77bfcf567bd78de23a732d83", func := "pitot/pitotlaw17.RedundPlays", spec := "redundPlays", unfollowed := true, recurses := true, apart := false }
def RedundPlaysSaid : Prop := redundPlaysRow.holds Try.pinned (OpenSpec.ofChange redundPlaysSpec)

/-- ITS FALSE NEIGHBOUR: 'it returns false'. Refute it at one input. -/
def redundPlaysWrong : ChangeSpec := { name := "redundPlays", fn := fun _ => fun
  | [d1, d2] => { results := [.lit (.bool false)], args := [d1, d2] }
  | _ => none }
def RedundPlaysWrongFalsely : Prop := redundPlaysRow.holds Try.pinned (OpenSpec.ofChange redundPlaysWrong)

/-- 'pitotlaw17.RedundNil': WHATEVER THE INPUT: true; the input reads as it did. -/
def redundNilSpec : ChangeSpec := { name := "redundNil", fn := fun _ => fun
  | [d1, d2, d3] => { results := [.lit (.bool true)], args := [d1, d2, d3] }
  | _ => none }
def redundNilRow : OpenClaim := { program := "ytdhgallfplbhpaa", sum := "8c02b47481bc23227f07e656cc670f69f8380afe77bfcf567bd78de23a732d83", func := "pitot/pitotlaw17.RedundNil", spec := "redundNil", unfollowed := true, recurses := true, apart := false }
def RedundNilSaid : Prop := redundNilRow.holds Try.pinned (OpenSpec.ofChange redundNilSpec)

/-- ITS FALSE NEIGHBOUR: 'it returns false'. Refute it at one input. -/
def redundNilWrong : ChangeSpec := { name := "redundNil", fn := fun _ => fun
  | [d1, d2, d3] => { results := [.lit (.bool false)], args := [d1, d2, d3] }
  | _ => none }
def RedundNilWrongFalsely : Prop := redundNilRow.holds Try.pinned (OpenSpec.ofChange redundNilWrong)

/-- 'pitotlaw17.RedundCounts': WHATEVER THE INPUT: true; the input reads as it did. -/
def redundCountsSpec : ChangeSpec := { name := "redundCounts", fn := fun _ => fun
  | [d1, d2] => { results := [.lit (.bool true)], args := [d1, d2] }
  | _ => none }
def redundCountsRow : OpenClaim := { program := "ytdhgallfplbhpaa", sum := "8c02b47481bc23227f07e656cc670f69f8380afe77bfcf567bd78de23a732d83", func := "pitot/pitotlaw17.RedundCounts", spec := "redundCounts", unfollowed := true, recurses := true, apart := false }
def RedundCountsSaid : Prop := redundCountsRow.holds Try.pinned (OpenSpec.ofChange redundCountsSpec)

/-- ITS FALSE NEIGHBOUR: 'it returns false'. Refute it at one input. -/
def redundCountsWrong : ChangeSpec := { name := "redundCounts", fn := fun _ => fun
  | [d1, d2] => { results := [.lit (.bool false)], args := [d1, d2] }
  | _ => none }
def RedundCountsWrongFalsely : Prop := redundCountsRow.holds Try.pinned (OpenSpec.ofChange redundCountsWrong)

/- THE SECOND FORM. 'bulk': how many values and letters a reading holds, each counted each time it is reached (what is shared counts as often as it is met; a slice's spare places count too). A statement '..UptoSaid' is the law's where the arguments, and the package variables that the reading takes, are together of bulk at most 1048576: NARROWER than '..Said'. Prove '..Said' where nothing that the law and all that it calls make is longer than what came in: it says more and counts as full. Else prove '..UptoSaid'. A law counts once. -/
mutual
def uptoBulk {H : Type} : DataW H → Nat
  | .lit (.string bytes) => bytes.length + 1
  | .lit _ => 1
  | .nil => 1
  | .ptr d => uptoBulk d + 1
  | .slice elems spare => uptoBulkAll elems + uptoBulkAll spare + 1
  | .agg parts => uptoBulkAll parts + 1
  | .iface _ d => uptoBulk d + 1
  | .map entries => uptoBulkEntries entries + 1
  | .held _ => 1
def uptoBulkAll {H : Type} : List (DataW H) → Nat
  | [] => 0
  | d :: r => uptoBulk d + uptoBulkAll r
def uptoBulkEntries {H : Type} : List (Lit × DataW H) → Nat
  | [] => 0
  | x :: r => uptoBulkEntry x + uptoBulkEntries r
def uptoBulkEntry {H : Type} : Lit × DataW H → Nat
  | (.string bytes, d) => bytes.length + uptoBulk d + 1
  | (_, d) => uptoBulk d + 1
 end
def uptoSmall : (H : Type) → List (DataW H) → Bool := fun _ ds => decide (uptoBulkAll ds ≤ 1048576)
def OpenSpec.upto (s : _root_.Go.ChangeSpec) : _root_.Go.OpenSpec := { _root_.Go.OpenSpec.ofChange s with cond := some uptoSmall }

/-- 'pitotlaw17.RedundLate', WHERE WHAT IT READS IS OF BULK AT MOST 1048576: true; the input reads as it did. -/
def redundLateUptoRow : OpenClaim := { program := "ytdhgallfplbhpaa", sum := "8c02b47481bc23227f07e656cc670f69f8380afe77bfcf567bd78de23a732d83", func := "pitot/pitotlaw17.RedundLate", spec := "redundLate", unfollowed := true, recurses := true, apart := false, narrowed := true }
def RedundLateUptoSaid : Prop := redundLateUptoRow.holds Try.pinned (OpenSpec.upto redundLateSpec)

/-- 'pitotlaw17.RedundOnce', WHERE WHAT IT READS IS OF BULK AT MOST 1048576: true; the input reads as it did. -/
def redundOnceUptoRow : OpenClaim := { program := "ytdhgallfplbhpaa", sum := "8c02b47481bc23227f07e656cc670f69f8380afe77bfcf567bd78de23a732d83", func := "pitot/pitotlaw17.RedundOnce", spec := "redundOnce", unfollowed := true, recurses := true, apart := false, narrowed := true }
def RedundOnceUptoSaid : Prop := redundOnceUptoRow.holds Try.pinned (OpenSpec.upto redundOnceSpec)

/-- 'pitotlaw17.RedundAlone', WHERE WHAT IT READS IS OF BULK AT MOST 1048576: true; the input reads as it did. -/
def redundAloneUptoRow : OpenClaim := { program := "ytdhgallfplbhpaa", sum := "8c02b47481bc23227f07e656cc670f69f8380afe77bfcf567bd78de23a732d83", func := "pitot/pitotlaw17.RedundAlone", spec := "redundAlone", unfollowed := true, recurses := true, apart := false, narrowed := true }
def RedundAloneUptoSaid : Prop := redundAloneUptoRow.holds Try.pinned (OpenSpec.upto redundAloneSpec)

/-- 'pitotlaw17.RedundPlays', WHERE WHAT IT READS IS OF BULK AT MOST 1048576: true; the input reads as it did. -/
def redundPlaysUptoRow : OpenClaim := { program := "ytdhgallfplbhpaa", sum := "8c02b47481bc23227f07e656cc670f69f8380afe77bfcf567bd78de23a732d83", func := "pitot/pitotlaw17.RedundPlays", spec := "redundPlays", unfollowed := true, recurses := true, apart := false, narrowed := true }
def RedundPlaysUptoSaid : Prop := redundPlaysUptoRow.holds Try.pinned (OpenSpec.upto redundPlaysSpec)

/-- 'pitotlaw17.RedundNil', WHERE WHAT IT READS IS OF BULK AT MOST 1048576: true; the input reads as it did. -/
def redundNilUptoRow : OpenClaim := { program := "ytdhgallfplbhpaa", sum := "8c02b47481bc23227f07e656cc670f69f8380afe77bfcf567bd78de23a732d83", func := "pitot/pitotlaw17.RedundNil", spec := "redundNil", unfollowed := true, recurses := true, apart := false, narrowed := true }
def RedundNilUptoSaid : Prop := redundNilUptoRow.holds Try.pinned (OpenSpec.upto redundNilSpec)

/-- 'pitotlaw17.RedundCounts', WHERE WHAT IT READS IS OF BULK AT MOST 1048576: true; the input reads as it did. -/
def redundCountsUptoRow : OpenClaim := { program := "ytdhgallfplbhpaa", sum := "8c02b47481bc23227f07e656cc670f69f8380afe77bfcf567bd78de23a732d83", func := "pitot/pitotlaw17.RedundCounts", spec := "redundCounts", unfollowed := true, recurses := true, apart := false, narrowed := true }
def RedundCountsUptoSaid : Prop := redundCountsUptoRow.holds Try.pinned (OpenSpec.upto redundCountsSpec)

end Rows
end Go.Proofs.Ytdhgallfplbhpaa
