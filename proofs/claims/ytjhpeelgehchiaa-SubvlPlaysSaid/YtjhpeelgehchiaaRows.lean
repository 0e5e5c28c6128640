/-
  No cell of these rows narrows 'for every input' (looked for: loops, veiled, ifaces, maps, wideKeys, modest, calm, conditions, laid).
  DERIVED. THE GIVEN ROWS OF THIS SEAT. 6 by the template 'for every input the law returns true; each argument reads behind the call as it read before'; 0 by the template 'total and deterministic' (their statements: YtjhpeelgehchiaaTotals.lean).
  GIVEN WITH THE SEED: the statements are not yours to turn. If you find one false, say at which input.
  Laid BY PROGRAM, IN A SANDBOX (cutbox-rows.mjs): the forced cells as the released guide's own fill.sh prints them over the translation 2e9376b604051262… (all of the seat's roots in one cut). By AI agents, Wed Nov 11 2026. No macro, syntax, notation, axiom, sorry.
-/
import Derived.Test.YtjhpeelgehchiaaChecked
import GoSem.Claim
import GoSem.ClaimJoined
import GoSem.ClaimMapViews
import Derived.JoinedTies
import Derived.KernelRfl
namespace Go.Proofs.Ytjhpeelgehchiaa
/- THE CELL 'sum', in the pinned program and in every row, IS THE sha256 OF THE DUMP (.gsa) THAT YtjhpeelgehchiaaProg.lean LOADS. Nothing in Lean hashes anything: it is a label: what it is worth is what the hold of that sum in a sandbox is worth. -/
noncomputable def Try.pinned : Pinned := { name := "ytjhpeelgehchiaa", sum := "2e9376b6040512622ade18f5e6217400b4cbfcca282e3a1c1c525329ccf37a49", checked := Try.checked }
namespace Rows
def none {H : Type} : Left H := { results := [], args := [] }

/-- 'pitotlaw13.SubvlFair': WHATEVER THE INPUT: true; the input reads as it did. -/
def subvlFairSpec : ChangeSpec := { name := "subvlFair", fn := fun _ => fun
  | [d1, d2, d3] => { results := [.lit (.bool true)], args := [d1, d2, d3] }
  | _ => none }
def subvlFairRow : OpenClaim := { program := "ytjhpeelgehchiaa", sum := "2e9376b6040512622ade18f5e6217400b4cbfcca282e3a1c1c525329ccf37a49", func := "pitot/pitotlaw13.SubvlFair", spec := "subvlFair", apart := false }
def SubvlFairSaid : Prop := subvlFairRow.holds Try.pinned (OpenSpec.ofChange subvlFairSpec)

/-- ITS FALSE NEIGHBOUR: 'it returns false'. Refute it at one input. -/
def subvlFairWrong : ChangeSpec := { name := "subvlFair", fn := fun _ => fun
  | [d1, d2, d3] => { results := [.lit (.bool false)], args := [d1, d2, d3] }
  | _ => none }
def SubvlFairWrongFalsely : Prop := subvlFairRow.holds Try.pinned (OpenSpec.ofChange subvlFairWrong)

/-- 'pitotlaw13.SubvlWaits': WHATEVER THE INPUT: true; the input reads as it did. -/
def subvlWaitsSpec : ChangeSpec := { name := "subvlWaits", fn := fun _ => fun
  | [d1, d2, d3] => { results := [.lit (.bool true)], args := [d1, d2, d3] }
  | _ => none }
def subvlWaitsRow : OpenClaim := { program := "ytjhpeelgehchiaa", sum := "2e9376b6040512622ade18f5e6217400b4cbfcca282e3a1c1c525329ccf37a49", func := "pitot/pitotlaw13.SubvlWaits", spec := "subvlWaits", apart := false }
def SubvlWaitsSaid : Prop := subvlWaitsRow.holds Try.pinned (OpenSpec.ofChange subvlWaitsSpec)

/-- ITS FALSE NEIGHBOUR: 'it returns false'. Refute it at one input. -/
def subvlWaitsWrong : ChangeSpec := { name := "subvlWaits", fn := fun _ => fun
  | [d1, d2, d3] => { results := [.lit (.bool false)], args := [d1, d2, d3] }
  | _ => none }
def SubvlWaitsWrongFalsely : Prop := subvlWaitsRow.holds Try.pinned (OpenSpec.ofChange subvlWaitsWrong)

/-- 'pitotlaw13.SubvlOrder': WHATEVER THE INPUT: true; the input reads as it did. -/
def subvlOrderSpec : ChangeSpec := { name := "subvlOrder", fn := fun _ => fun
  | [d1, d2, d3] => { results := [.lit (.bool true)], args := [d1, d2, d3] }
  | _ => none }
def subvlOrderRow : OpenClaim := { program := "ytjhpeelgehchiaa", sum := "2e9376b6040512622ade18f5e6217400b4cbfcca282e3a1c1c525329ccf37a49", func := "pitot/pitotlaw13.SubvlOrder", spec := "subvlOrder", apart := false }
def SubvlOrderSaid : Prop := subvlOrderRow.holds Try.pinned (OpenSpec.ofChange subvlOrderSpec)

/-- ITS FALSE NEIGHBOUR: 'it returns false'. Refute it at one input. -/
def subvlOrderWrong : ChangeSpec := { name := "subvlOrder", fn := fun _ => fun
  | [d1, d2, d3] => { results := [.lit (.bool false)], args := [d1, d2, d3] }
  | _ => none }
def SubvlOrderWrongFalsely : Prop := subvlOrderRow.holds Try.pinned (OpenSpec.ofChange subvlOrderWrong)

/-- 'pitotlaw13.SubvlFull': WHATEVER THE INPUT: true; the input reads as it did. -/
def subvlFullSpec : ChangeSpec := { name := "subvlFull", fn := fun _ => fun
  | [d1, d2] => { results := [.lit (.bool true)], args := [d1, d2] }
  | _ => none }
def subvlFullRow : OpenClaim := { program := "ytjhpeelgehchiaa", sum := "2e9376b6040512622ade18f5e6217400b4cbfcca282e3a1c1c525329ccf37a49", func := "pitot/pitotlaw13.SubvlFull", spec := "subvlFull", apart := false }
def SubvlFullSaid : Prop := subvlFullRow.holds Try.pinned (OpenSpec.ofChange subvlFullSpec)

/-- ITS FALSE NEIGHBOUR: 'it returns false'. Refute it at one input. -/
def subvlFullWrong : ChangeSpec := { name := "subvlFull", fn := fun _ => fun
  | [d1, d2] => { results := [.lit (.bool false)], args := [d1, d2] }
  | _ => none }
def SubvlFullWrongFalsely : Prop := subvlFullRow.holds Try.pinned (OpenSpec.ofChange subvlFullWrong)

/-- 'pitotlaw13.SubvlPlays': WHATEVER THE INPUT: true; the input reads as it did. -/
def subvlPlaysSpec : ChangeSpec := { name := "subvlPlays", fn := fun _ => fun
  | [d1, d2, d3] => { results := [.lit (.bool true)], args := [d1, d2, d3] }
  | _ => none }
def subvlPlaysRow : OpenClaim := { program := "ytjhpeelgehchiaa", sum := "2e9376b6040512622ade18f5e6217400b4cbfcca282e3a1c1c525329ccf37a49", func := "pitot/pitotlaw13.SubvlPlays", spec := "subvlPlays", apart := false }
def SubvlPlaysSaid : Prop := subvlPlaysRow.holds Try.pinned (OpenSpec.ofChange subvlPlaysSpec)

/-- ITS FALSE NEIGHBOUR: 'it returns false'. Refute it at one input. -/
def subvlPlaysWrong : ChangeSpec := { name := "subvlPlays", fn := fun _ => fun
  | [d1, d2, d3] => { results := [.lit (.bool false)], args := [d1, d2, d3] }
  | _ => none }
def SubvlPlaysWrongFalsely : Prop := subvlPlaysRow.holds Try.pinned (OpenSpec.ofChange subvlPlaysWrong)

/-- 'pitotlaw13.SubvlNil': WHATEVER THE INPUT: true; the input reads as it did. -/
def subvlNilSpec : ChangeSpec := { name := "subvlNil", fn := fun _ => fun
  | [d1, d2] => { results := [.lit (.bool true)], args := [d1, d2] }
  | _ => none }
def subvlNilRow : OpenClaim := { program := "ytjhpeelgehchiaa", sum := "2e9376b6040512622ade18f5e6217400b4cbfcca282e3a1c1c525329ccf37a49", func := "pitot/pitotlaw13.SubvlNil", spec := "subvlNil", apart := false }
def SubvlNilSaid : Prop := subvlNilRow.holds Try.pinned (OpenSpec.ofChange subvlNilSpec)

/-- ITS FALSE NEIGHBOUR: 'it returns false'. Refute it at one input. -/
def subvlNilWrong : ChangeSpec := { name := "subvlNil", fn := fun _ => fun
  | [d1, d2] => { results := [.lit (.bool false)], args := [d1, d2] }
  | _ => none }
def SubvlNilWrongFalsely : Prop := subvlNilRow.holds Try.pinned (OpenSpec.ofChange subvlNilWrong)

/- THE SECOND FORM. 'bulk': how many values and letters a reading holds, each counted each time it is reached (what is shared counts as often as it is met; a slice's spare places count too). A statement '..UptoSaid' is the law's where the arguments, and the package variables that the reading takes, are together of bulk at most 1048576: NARROWER than '..Said'. Prove '..Said' where nothing that the law and all that it calls make is longer than what came in: it says more and counts as full. Else prove '..UptoSaid'. A law counts once. -/
mutual
def uptoBulk {H : Type} : DataW H → Nat
  | .lit (.string bytes) => bytes.length + 1
  | .lit _ => 1
  | .nil => 1
  | .ptr d => uptoBulk d + 1
  | .slice elems spare => uptoBulkAll elems + uptoBulkAll spare + 1
  | .agg parts => uptoBulkAll parts + 1
  | .iface _ d => uptoBulk d + 1
  | .map entries => uptoBulkEntries entries + 1
  | .held _ => 1
def uptoBulkAll {H : Type} : List (DataW H) → Nat
  | [] => 0
  | d :: r => uptoBulk d + uptoBulkAll r
def uptoBulkEntries {H : Type} : List (Lit × DataW H) → Nat
  | [] => 0
  | x :: r => uptoBulkEntry x + uptoBulkEntries r
def uptoBulkEntry {H : Type} : Lit × DataW H → Nat
  | (.string bytes, d) => bytes.length + uptoBulk d + 1
  | (_, d) => uptoBulk d + 1
 end
def uptoSmall : (H : Type) → List (DataW H) → Bool := fun _ ds => decide (uptoBulkAll ds ≤ 1048576)
def OpenSpec.upto (s : _root_.Go.ChangeSpec) : _root_.Go.OpenSpec := { _root_.Go.OpenSpec.ofChange s with cond := some uptoSmall }

/-- 'pitotlaw13.SubvlFair', WHERE WHAT IT READS IS OF BULK AT MOST 1048576: true; the input reads as it did. -/
def subvlFairUptoRow : OpenClaim := { program := "ytjhpeelgehchiaa", sum := "2e9376b6040512622ade18f5e6217400b4cbfcca282e3a1c1c525329ccf37a49", func := "pitot/pitotlaw13.SubvlFair", spec := "subvlFair", apart := false, narrowed := true }
def SubvlFairUptoSaid : Prop := subvlFairUptoRow.holds Try.pinned (OpenSpec.upto subvlFairSpec)

/-- 'pitotlaw13.SubvlWaits', WHERE WHAT IT READS IS OF BULK AT MOST 1048576: true; the input reads as it did. -/
def subvlWaitsUptoRow : OpenClaim := { program := "ytjhpeelgehchiaa", sum := "2e9376b6040512622ade18f5e6217400b4cbfcca282e3a1c1c525329ccf37a49", func := "pitot/pitotlaw13.SubvlWaits", spec := "subvlWaits", apart := false, narrowed := true }
def SubvlWaitsUptoSaid : Prop := subvlWaitsUptoRow.holds Try.pinned (OpenSpec.upto subvlWaitsSpec)

/-- 'pitotlaw13.SubvlOrder', WHERE WHAT IT READS IS OF BULK AT MOST 1048576: true; the input reads as it did. -/
def subvlOrderUptoRow : OpenClaim := { program := "ytjhpeelgehchiaa", sum := "2e9376b6040512622ade18f5e6217400b4cbfcca282e3a1c1c525329ccf37a49", func := "pitot/pitotlaw13.SubvlOrder", spec := "subvlOrder", apart := false, narrowed := true }
def SubvlOrderUptoSaid : Prop := subvlOrderUptoRow.holds Try.pinned (OpenSpec.upto subvlOrderSpec)

/-- 'pitotlaw13.SubvlFull', WHERE WHAT IT READS IS OF BULK AT MOST 1048576: true; the input reads as it did. -/
def subvlFullUptoRow : OpenClaim := { program := "ytjhpeelgehchiaa", sum := "2e9376b6040512622ade18f5e6217400b4cbfcca282e3a1c1c525329ccf37a49", func := "pitot/pitotlaw13.SubvlFull", spec := "subvlFull", apart := false, narrowed := true }
def SubvlFullUptoSaid : Prop := subvlFullUptoRow.holds Try.pinned (OpenSpec.upto subvlFullSpec)

/-- 'pitotlaw13.SubvlPlays', WHERE WHAT IT READS IS OF BULK AT MOST 1048576: true; the input reads as it did. -/
def subvlPlaysUptoRow : OpenClaim := { program := "ytjhpeelgehchiaa", sum := "2e9376b6040512622ade18f5e6217400b4cbfcca282e3a1c1c525329ccf37a49", func := "pitot/pitotlaw13.SubvlPlays", spec := "subvlPlays", apart := false, narrowed := true }
def SubvlPlaysUptoSaid : Prop := subvlPlaysUptoRow.holds Try.pinned (OpenSpec.upto subvlPlaysSpec)

/-- 'pitotlaw13.SubvlNil', WHERE WHAT IT READS IS OF BULK AT MOST 1048576: true; the input reads as it did. -/
def subvlNilUptoRow : OpenClaim := { program := "ytjhpeelgehchiaa", sum := "2e9376b6040512622ade18f5e6217400b4cbfcca282e3a1c1c525329ccf37a49", func := "pitot/pitotlaw13.SubvlNil", spec := "subvlNil", apart := false, narrowed := true }
def SubvlNilUptoSaid : Prop := subvlNilUptoRow.holds Try.pinned (OpenSpec.upto subvlNilSpec)

end Rows
end Go.Proofs.Ytjhpeelgehchiaa
