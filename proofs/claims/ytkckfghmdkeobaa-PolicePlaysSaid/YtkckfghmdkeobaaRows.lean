/-
  No cell of these rows narrows 'for every input' (looked for: loops, veiled, ifaces, maps, wideKeys, modest, calm, conditions, laid).
  DERIVED. THE GIVEN ROWS OF THIS SEAT. 7 by the template 'for every input the law returns true; each argument reads behind the call as it read before'; 0 by the template 'total and deterministic' (their statements: YtkckfghmdkeobaaTotals.lean).
  GIVEN WITH THE SEED: the statements are not yours to turn. If you find one false, say at which input.
  Laid BY PROGRAM, IN A SANDBOX (cutbox-rows.mjs): the forced cells as the released guide's own fill.sh prints them over the translation e959cb6bed05daa7… (all of the seat's roots in one cut). By AI agents, Wed Nov 11 2026. No macro, syntax, notation, axiom, sorry.
-/
import Derived.Test.YtkckfghmdkeobaaChecked
import GoSem.Claim
import GoSem.ClaimJoined
import GoSem.ClaimMapViews
import Derived.JoinedTies
import Derived.KernelRfl
namespace Go.Proofs.Ytkckfghmdkeobaa
/- THE CELL 'sum', in the pinned program and in every row, IS THE sha256 OF THE DUMP (.gsa) THAT YtkckfghmdkeobaaProg.lean LOADS. Nothing in Lean hashes anything: it is a label: what it is worth is what the hold of that sum in a sandbox is worth. -/
noncomputable def Try.pinned : Pinned := { name := "ytkckfghmdkeobaa", sum := "e959cb6bed05daa77358ab63e587c927243164266333eb7371cb4ce69b095cfb", checked := Try.checked }
namespace Rows
def none {H : Type} : Left H := { results := [], args := [] }

/-- 'pitotlaw18.PoliceShare': WHATEVER THE INPUT: true; the input reads as it did. -/
def policeShareSpec : ChangeSpec := { name := "policeShare", fn := fun _ => fun
  | [d1, d2, d3] => { results := [.lit (.bool true)], args := [d1, d2, d3] }
  | _ => none }
def policeShareRow : OpenClaim := { program := "ytkckfghmdkeobaa", sum := "e959cb6bed05daa77358ab63e587c927243164266333eb7371cb4ce69b095cfb", func := "pitot/pitotlaw18.PoliceShare", spec := "policeShare", apart := false }
def PoliceShareSaid : Prop := policeShareRow.holds Try.pinned (OpenSpec.ofChange policeShareSpec)

/-- ITS FALSE NEIGHBOUR: 'it returns false'. Refute it at one input. -/
def policeShareWrong : ChangeSpec := { name := "policeShare", fn := fun _ => fun
  | [d1, d2, d3] => { results := [.lit (.bool false)], args := [d1, d2, d3] }
  | _ => none }
def PoliceShareWrongFalsely : Prop := policeShareRow.holds Try.pinned (OpenSpec.ofChange policeShareWrong)

/-- 'pitotlaw18.PoliceRests': WHATEVER THE INPUT: true; the input reads as it did. -/
def policeRestsSpec : ChangeSpec := { name := "policeRests", fn := fun _ => fun
  | [d1, d2] => { results := [.lit (.bool true)], args := [d1, d2] }
  | _ => none }
def policeRestsRow : OpenClaim := { program := "ytkckfghmdkeobaa", sum := "e959cb6bed05daa77358ab63e587c927243164266333eb7371cb4ce69b095cfb", func := "pitot/pitotlaw18.PoliceRests", spec := "policeRests", apart := false }
def PoliceRestsSaid : Prop := policeRestsRow.holds Try.pinned (OpenSpec.ofChange policeRestsSpec)

/-- ITS FALSE NEIGHBOUR: 'it returns false'. Refute it at one input. -/
def policeRestsWrong : ChangeSpec := { name := "policeRests", fn := fun _ => fun
  | [d1, d2] => { results := [.lit (.bool false)], args := [d1, d2] }
  | _ => none }
def PoliceRestsWrongFalsely : Prop := policeRestsRow.holds Try.pinned (OpenSpec.ofChange policeRestsWrong)

/-- 'pitotlaw18.PolicePlays': WHATEVER THE INPUT: true; the input reads as it did. -/
def policePlaysSpec : ChangeSpec := { name := "policePlays", fn := fun _ => fun
  | [d1, d2] => { results := [.lit (.bool true)], args := [d1, d2] }
  | _ => none }
def policePlaysRow : OpenClaim := { program := "ytkckfghmdkeobaa", sum := "e959cb6bed05daa77358ab63e587c927243164266333eb7371cb4ce69b095cfb", func := "pitot/pitotlaw18.PolicePlays", spec := "policePlays", apart := false }
def PolicePlaysSaid : Prop := policePlaysRow.holds Try.pinned (OpenSpec.ofChange policePlaysSpec)

/-- ITS FALSE NEIGHBOUR: 'it returns false'. Refute it at one input. -/
def policePlaysWrong : ChangeSpec := { name := "policePlays", fn := fun _ => fun
  | [d1, d2] => { results := [.lit (.bool false)], args := [d1, d2] }
  | _ => none }
def PolicePlaysWrongFalsely : Prop := policePlaysRow.holds Try.pinned (OpenSpec.ofChange policePlaysWrong)

/-- 'pitotlaw18.PoliceNil': WHATEVER THE INPUT: true; the input reads as it did. -/
def policeNilSpec : ChangeSpec := { name := "policeNil", fn := fun _ => fun
  | [d1, d2] => { results := [.lit (.bool true)], args := [d1, d2] }
  | _ => none }
def policeNilRow : OpenClaim := { program := "ytkckfghmdkeobaa", sum := "e959cb6bed05daa77358ab63e587c927243164266333eb7371cb4ce69b095cfb", func := "pitot/pitotlaw18.PoliceNil", spec := "policeNil", apart := false }
def PoliceNilSaid : Prop := policeNilRow.holds Try.pinned (OpenSpec.ofChange policeNilSpec)

/-- ITS FALSE NEIGHBOUR: 'it returns false'. Refute it at one input. -/
def policeNilWrong : ChangeSpec := { name := "policeNil", fn := fun _ => fun
  | [d1, d2] => { results := [.lit (.bool false)], args := [d1, d2] }
  | _ => none }
def PoliceNilWrongFalsely : Prop := policeNilRow.holds Try.pinned (OpenSpec.ofChange policeNilWrong)

/-- 'pitotlaw18.PoliceCounts': WHATEVER THE INPUT: true; the input reads as it did. -/
def policeCountsSpec : ChangeSpec := { name := "policeCounts", fn := fun _ => fun
  | [d1, d2] => { results := [.lit (.bool true)], args := [d1, d2] }
  | _ => none }
def policeCountsRow : OpenClaim := { program := "ytkckfghmdkeobaa", sum := "e959cb6bed05daa77358ab63e587c927243164266333eb7371cb4ce69b095cfb", func := "pitot/pitotlaw18.PoliceCounts", spec := "policeCounts", apart := false }
def PoliceCountsSaid : Prop := policeCountsRow.holds Try.pinned (OpenSpec.ofChange policeCountsSpec)

/-- ITS FALSE NEIGHBOUR: 'it returns false'. Refute it at one input. -/
def policeCountsWrong : ChangeSpec := { name := "policeCounts", fn := fun _ => fun
  | [d1, d2] => { results := [.lit (.bool false)], args := [d1, d2] }
  | _ => none }
def PoliceCountsWrongFalsely : Prop := policeCountsRow.holds Try.pinned (OpenSpec.ofChange policeCountsWrong)

/-- 'pitotlaw18.PoliceConforms': WHATEVER THE INPUT: true; the input reads as it did. -/
def policeConformsSpec : ChangeSpec := { name := "policeConforms", fn := fun _ => fun
  | [d1, d2, d3] => { results := [.lit (.bool true)], args := [d1, d2, d3] }
  | _ => none }
def policeConformsRow : OpenClaim := { program := "ytkckfghmdkeobaa", sum := "e959cb6bed05daa77358ab63e587c927243164266333eb7371cb4ce69b095cfb", func := "pitot/pitotlaw18.PoliceConforms", spec := "policeConforms", apart := false }
def PoliceConformsSaid : Prop := policeConformsRow.holds Try.pinned (OpenSpec.ofChange policeConformsSpec)

/-- ITS FALSE NEIGHBOUR: 'it returns false'. Refute it at one input. -/
def policeConformsWrong : ChangeSpec := { name := "policeConforms", fn := fun _ => fun
  | [d1, d2, d3] => { results := [.lit (.bool false)], args := [d1, d2, d3] }
  | _ => none }
def PoliceConformsWrongFalsely : Prop := policeConformsRow.holds Try.pinned (OpenSpec.ofChange policeConformsWrong)

/-- 'pitotlaw18.PoliceHonest': WHATEVER THE INPUT: true; the input reads as it did. -/
def policeHonestSpec : ChangeSpec := { name := "policeHonest", fn := fun _ => fun
  | [d1, d2, d3] => { results := [.lit (.bool true)], args := [d1, d2, d3] }
  | _ => none }
def policeHonestRow : OpenClaim := { program := "ytkckfghmdkeobaa", sum := "e959cb6bed05daa77358ab63e587c927243164266333eb7371cb4ce69b095cfb", func := "pitot/pitotlaw18.PoliceHonest", spec := "policeHonest", apart := false }
def PoliceHonestSaid : Prop := policeHonestRow.holds Try.pinned (OpenSpec.ofChange policeHonestSpec)

/-- ITS FALSE NEIGHBOUR: 'it returns false'. Refute it at one input. -/
def policeHonestWrong : ChangeSpec := { name := "policeHonest", fn := fun _ => fun
  | [d1, d2, d3] => { results := [.lit (.bool false)], args := [d1, d2, d3] }
  | _ => none }
def PoliceHonestWrongFalsely : Prop := policeHonestRow.holds Try.pinned (OpenSpec.ofChange policeHonestWrong)

/- THE SECOND FORM. 'bulk': how many values and letters a reading holds, each counted each time it is reached (what is shared counts as often as it is met; a slice's spare places count too). A statement '..UptoSaid' is the law's where the arguments, and the package variables that the reading takes, are together of bulk at most 1048576: NARROWER than '..Said'. Prove '..Said' where nothing that the law and all that it calls make is longer than what came in: it says more and counts as full. Else prove '..UptoSaid'. A law counts once. -/
mutual
def uptoBulk {H : Type} : DataW H → Nat
  | .lit (.string bytes) => bytes.length + 1
  | .lit _ => 1
  | .nil => 1
  | .ptr d => uptoBulk d + 1
  | .slice elems spare => uptoBulkAll elems + uptoBulkAll spare + 1
  | .agg parts => uptoBulkAll parts + 1
  | .iface _ d => uptoBulk d + 1
  | .map entries => uptoBulkEntries entries + 1
  | .held _ => 1
def uptoBulkAll {H : Type} : List (DataW H) → Nat
  | [] => 0
  | d :: r => uptoBulk d + uptoBulkAll r
def uptoBulkEntries {H : Type} : List (Lit × DataW H) → Nat
  | [] => 0
  | x :: r => uptoBulkEntry x + uptoBulkEntries r
def uptoBulkEntry {H : Type} : Lit × DataW H → Nat
  | (.string bytes, d) => bytes.length + uptoBulk d + 1
  | (_, d) => uptoBulk d + 1
 end
def uptoSmall : (H : Type) → List (DataW H) → Bool := fun _ ds => decide (uptoBulkAll ds ≤ 1048576)
def OpenSpec.upto (s : _root_.Go.ChangeSpec) : _root_.Go.OpenSpec := { _root_.Go.OpenSpec.ofChange s with cond := some uptoSmall }

/-- 'pitotlaw18.PoliceShare', WHERE WHAT IT READS IS OF BULK AT MOST 1048576: true; the input reads as it did. -/
def policeShareUptoRow : OpenClaim := { program := "ytkckfghmdkeobaa", sum := "e959cb6bed05daa77358ab63e587c927243164266333eb7371cb4ce69b095cfb", func := "pitot/pitotlaw18.PoliceShare", spec := "policeShare", apart := false, narrowed := true }
def PoliceShareUptoSaid : Prop := policeShareUptoRow.holds Try.pinned (OpenSpec.upto policeShareSpec)

/-- 'pitotlaw18.PoliceRests', WHERE WHAT IT READS IS OF BULK AT MOST 1048576: true; the input reads as it did. -/
def policeRestsUptoRow : OpenClaim := { program := "ytkckfghmdkeobaa", sum := "e959cb6bed05daa77358ab63e587c927243164266333eb7371cb4ce69b095cfb", func := "pitot/pitotlaw18.PoliceRests", spec := "policeRests", apart := false, narrowed := true }
def PoliceRestsUptoSaid : Prop := policeRestsUptoRow.holds Try.pinned (OpenSpec.upto policeRestsSpec)

/-- 'pitotlaw18.PolicePlays', WHERE WHAT IT READS IS OF BULK AT MOST 1048576: true; the input reads as it did. -/
def policePlaysUptoRow : OpenClaim := { program := "ytkckfghmdkeobaa", sum := "e959cb6bed05daa77358ab63e587c927243164266333eb7371cb4ce69b095cfb", func := "pitot/pitotlaw18.PolicePlays", spec := "policePlays", apart := false, narrowed := true }
def PolicePlaysUptoSaid : Prop := policePlaysUptoRow.holds Try.pinned (OpenSpec.upto policePlaysSpec)

/-- 'pitotlaw18.PoliceNil', WHERE WHAT IT READS IS OF BULK AT MOST 1048576: true; the input reads as it did. -/
def policeNilUptoRow : OpenClaim := { program := "ytkckfghmdkeobaa", sum := "e959cb6bed05daa77358ab63e587c927243164266333eb7371cb4ce69b095cfb", func := "pitot/pitotlaw18.PoliceNil", spec := "policeNil", apart := false, narrowed := true }
def PoliceNilUptoSaid : Prop := policeNilUptoRow.holds Try.pinned (OpenSpec.upto policeNilSpec)

/-- 'pitotlaw18.PoliceCounts', WHERE WHAT IT READS IS OF BULK AT MOST 1048576: true; the input reads as it did. -/
def policeCountsUptoRow : OpenClaim := { program := "ytkckfghmdkeobaa", sum := "e959cb6bed05daa77358ab63e587c927243164266333eb7371cb4ce69b095cfb", func := "pitot/pitotlaw18.PoliceCounts", spec := "policeCounts", apart := false, narrowed := true }
def PoliceCountsUptoSaid : Prop := policeCountsUptoRow.holds Try.pinned (OpenSpec.upto policeCountsSpec)

/-- 'pitotlaw18.PoliceConforms', WHERE WHAT IT READS IS OF BULK AT MOST 1048576: true; the input reads as it did. -/
def policeConformsUptoRow : OpenClaim := { program := "ytkckfghmdkeobaa", sum := "e959cb6bed05daa77358ab63e587c927243164266333eb7371cb4ce69b095cfb", func := "pitot/pitotlaw18.PoliceConforms", spec := "policeConforms", apart := false, narrowed := true }
def PoliceConformsUptoSaid : Prop := policeConformsUptoRow.holds Try.pinned (OpenSpec.upto policeConformsSpec)

/-- 'pitotlaw18.PoliceHonest', WHERE WHAT IT READS IS OF BULK AT MOST 1048576: true; the input reads as it did. -/
def policeHonestUptoRow : OpenClaim := { program := "ytkckfghmdkeobaa", sum := "e959cb6bed05daa77358ab63e587c927243164266333eb7371cb4ce69b095cfb", func := "pitot/pitotlaw18.PoliceHonest", spec := "policeHonest", apart := false, narrowed := true }
def PoliceHonestUptoSaid : Prop := policeHonestUptoRow.holds Try.pinned (OpenSpec.upto policeHonestSpec)

end Rows
end Go.Proofs.Ytkckfghmdkeobaa
