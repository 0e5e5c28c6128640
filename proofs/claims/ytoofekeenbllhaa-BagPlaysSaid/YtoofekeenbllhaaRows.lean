/-
  No cell of these rows narrows 'for every input' (looked for: loops, veiled, ifaces, maps, wideKeys, modest, calm, conditions, laid).
  DERIVED. THE GIVEN ROWS OF THIS SEAT. 6 by the template 'for every input the law returns true; each argument reads behind the call as it read before'; 0 by the template 'total and deterministic' (their statements: YtoofekeenbllhaaTotals.lean).
  GIVEN WITH THE SEED: the statements are not yours to turn. If you find one false, say at which input.
  Laid BY PROGRAM, IN A SANDBOX (cutbox-rows.mjs): the forced cells as the released guide's own fill.sh prints them over the translation 618160fab84131e8… (all of the seat's roots in one cut). By AI agents, Wed Nov 11 2026. No macro, syntax, notation, axiom, sorry.
-/
import Derived.Test.YtoofekeenbllhaaChecked
import GoSem.Claim
import GoSem.ClaimJoined
import GoSem.ClaimMapViews
import Derived.JoinedTies
import Derived.KernelRfl
namespace Go.Proofs.Ytoofekeenbllhaa
/- THE CELL 'sum', in the pinned program and in every row, IS THE sha256 OF THE DUMP (.gsa) THAT YtoofekeenbllhaaProg.lean LOADS. Nothing in Lean hashes anything: it is a label: what it is worth is what the hold of that sum in a sandbox is worth. -/
noncomputable def Try.pinned : Pinned := { name := "ytoofekeenbllhaa", sum := "618160fab84131e807131b79f06c1b3032986aeffd7aa11ae3568ef04ee0c8db", checked := Try.checked }
namespace Rows
def none {H : Type} : Left H := { results := [], args := [] }

/-- 'pitotlaw12.BagBounds': WHATEVER THE INPUT: true; the input reads as it did. -/
def bagBoundsSpec : ChangeSpec := { name := "bagBounds", fn := fun _ => fun
  | [d1, d2] => { results := [.lit (.bool true)], args := [d1, d2] }
  | _ => none }
def bagBoundsRow : OpenClaim := { program := "ytoofekeenbllhaa", sum := "618160fab84131e807131b79f06c1b3032986aeffd7aa11ae3568ef04ee0c8db", func := "pitot/pitotlaw12.BagBounds", spec := "bagBounds", apart := false }
def BagBoundsSaid : Prop := bagBoundsRow.holds Try.pinned (OpenSpec.ofChange bagBoundsSpec)

/-- ITS FALSE NEIGHBOUR: 'it returns false'. Refute it at one input. -/
def bagBoundsWrong : ChangeSpec := { name := "bagBounds", fn := fun _ => fun
  | [d1, d2] => { results := [.lit (.bool false)], args := [d1, d2] }
  | _ => none }
def BagBoundsWrongFalsely : Prop := bagBoundsRow.holds Try.pinned (OpenSpec.ofChange bagBoundsWrong)

/-- 'pitotlaw12.BagSoon': WHATEVER THE INPUT: true; the input reads as it did. -/
def bagSoonSpec : ChangeSpec := { name := "bagSoon", fn := fun _ => fun
  | [d1, d2, d3] => { results := [.lit (.bool true)], args := [d1, d2, d3] }
  | _ => none }
def bagSoonRow : OpenClaim := { program := "ytoofekeenbllhaa", sum := "618160fab84131e807131b79f06c1b3032986aeffd7aa11ae3568ef04ee0c8db", func := "pitot/pitotlaw12.BagSoon", spec := "bagSoon", apart := false }
def BagSoonSaid : Prop := bagSoonRow.holds Try.pinned (OpenSpec.ofChange bagSoonSpec)

/-- ITS FALSE NEIGHBOUR: 'it returns false'. Refute it at one input. -/
def bagSoonWrong : ChangeSpec := { name := "bagSoon", fn := fun _ => fun
  | [d1, d2, d3] => { results := [.lit (.bool false)], args := [d1, d2, d3] }
  | _ => none }
def BagSoonWrongFalsely : Prop := bagSoonRow.holds Try.pinned (OpenSpec.ofChange bagSoonWrong)

/-- 'pitotlaw12.BagDoubles': WHATEVER THE INPUT: true; the input reads as it did. -/
def bagDoublesSpec : ChangeSpec := { name := "bagDoubles", fn := fun _ => fun
  | [d1, d2] => { results := [.lit (.bool true)], args := [d1, d2] }
  | _ => none }
def bagDoublesRow : OpenClaim := { program := "ytoofekeenbllhaa", sum := "618160fab84131e807131b79f06c1b3032986aeffd7aa11ae3568ef04ee0c8db", func := "pitot/pitotlaw12.BagDoubles", spec := "bagDoubles", apart := false }
def BagDoublesSaid : Prop := bagDoublesRow.holds Try.pinned (OpenSpec.ofChange bagDoublesSpec)

/-- ITS FALSE NEIGHBOUR: 'it returns false'. Refute it at one input. -/
def bagDoublesWrong : ChangeSpec := { name := "bagDoubles", fn := fun _ => fun
  | [d1, d2] => { results := [.lit (.bool false)], args := [d1, d2] }
  | _ => none }
def BagDoublesWrongFalsely : Prop := bagDoublesRow.holds Try.pinned (OpenSpec.ofChange bagDoublesWrong)

/-- 'pitotlaw12.BagApart': WHATEVER THE INPUT: true; the input reads as it did. -/
def bagApartSpec : ChangeSpec := { name := "bagApart", fn := fun _ => fun
  | [d1, d2, d3] => { results := [.lit (.bool true)], args := [d1, d2, d3] }
  | _ => none }
def bagApartRow : OpenClaim := { program := "ytoofekeenbllhaa", sum := "618160fab84131e807131b79f06c1b3032986aeffd7aa11ae3568ef04ee0c8db", func := "pitot/pitotlaw12.BagApart", spec := "bagApart", apart := false }
def BagApartSaid : Prop := bagApartRow.holds Try.pinned (OpenSpec.ofChange bagApartSpec)

/-- ITS FALSE NEIGHBOUR: 'it returns false'. Refute it at one input. -/
def bagApartWrong : ChangeSpec := { name := "bagApart", fn := fun _ => fun
  | [d1, d2, d3] => { results := [.lit (.bool false)], args := [d1, d2, d3] }
  | _ => none }
def BagApartWrongFalsely : Prop := bagApartRow.holds Try.pinned (OpenSpec.ofChange bagApartWrong)

/-- 'pitotlaw12.BagPlays': WHATEVER THE INPUT: true; the input reads as it did. -/
def bagPlaysSpec : ChangeSpec := { name := "bagPlays", fn := fun _ => fun
  | [d1, d2] => { results := [.lit (.bool true)], args := [d1, d2] }
  | _ => none }
def bagPlaysRow : OpenClaim := { program := "ytoofekeenbllhaa", sum := "618160fab84131e807131b79f06c1b3032986aeffd7aa11ae3568ef04ee0c8db", func := "pitot/pitotlaw12.BagPlays", spec := "bagPlays", apart := false }
def BagPlaysSaid : Prop := bagPlaysRow.holds Try.pinned (OpenSpec.ofChange bagPlaysSpec)

/-- ITS FALSE NEIGHBOUR: 'it returns false'. Refute it at one input. -/
def bagPlaysWrong : ChangeSpec := { name := "bagPlays", fn := fun _ => fun
  | [d1, d2] => { results := [.lit (.bool false)], args := [d1, d2] }
  | _ => none }
def BagPlaysWrongFalsely : Prop := bagPlaysRow.holds Try.pinned (OpenSpec.ofChange bagPlaysWrong)

/-- 'pitotlaw12.BagNil': WHATEVER THE INPUT: true; the input reads as it did. -/
def bagNilSpec : ChangeSpec := { name := "bagNil", fn := fun _ => fun
  | [d] => { results := [.lit (.bool true)], args := [d] }
  | _ => none }
def bagNilRow : OpenClaim := { program := "ytoofekeenbllhaa", sum := "618160fab84131e807131b79f06c1b3032986aeffd7aa11ae3568ef04ee0c8db", func := "pitot/pitotlaw12.BagNil", spec := "bagNil", apart := false }
def BagNilSaid : Prop := bagNilRow.holds Try.pinned (OpenSpec.ofChange bagNilSpec)

/-- ITS FALSE NEIGHBOUR: 'it returns false'. Refute it at one input. -/
def bagNilWrong : ChangeSpec := { name := "bagNil", fn := fun _ => fun
  | [d] => { results := [.lit (.bool false)], args := [d] }
  | _ => none }
def BagNilWrongFalsely : Prop := bagNilRow.holds Try.pinned (OpenSpec.ofChange bagNilWrong)

/- THE SECOND FORM. 'bulk': how many values and letters a reading holds, each counted each time it is reached (what is shared counts as often as it is met; a slice's spare places count too). A statement '..UptoSaid' is the law's where the arguments, and the package variables that the reading takes, are together of bulk at most 1048576: NARROWER than '..Said'. Prove '..Said' where nothing that the law and all that it calls make is longer than what came in: it says more and counts as full. Else prove '..UptoSaid'. A law counts once. -/
mutual
def uptoBulk {H : Type} : DataW H → Nat
  | .lit (.string bytes) => bytes.length + 1
  | .lit _ => 1
  | .nil => 1
  | .ptr d => uptoBulk d + 1
  | .slice elems spare => uptoBulkAll elems + uptoBulkAll spare + 1
  | .agg parts => uptoBulkAll parts + 1
  | .iface _ d => uptoBulk d + 1
  | .map entries => uptoBulkEntries entries + 1
  | .held _ => 1
def uptoBulkAll {H : Type} : List (DataW H) → Nat
  | [] => 0
  | d :: r => uptoBulk d + uptoBulkAll r
def uptoBulkEntries {H : Type} : List (Lit × DataW H) → Nat
  | [] => 0
  | x :: r => uptoBulkEntry x + uptoBulkEntries r
def uptoBulkEntry {H : Type} : Lit × DataW H → Nat
  | (.string bytes, d) => bytes.length + uptoBulk d + 1
  | (_, d) => uptoBulk d + 1
 end
def uptoSmall : (H : Type) → List (DataW H) → Bool := fun _ ds => decide (uptoBulkAll ds ≤ 1048576)
def OpenSpec.upto (s : _root_.Go.ChangeSpec) : _root_.Go.OpenSpec := { _root_.Go.OpenSpec.ofChange s with cond := some uptoSmall }

/-- 'pitotlaw12.BagBounds', WHERE WHAT IT READS IS OF BULK AT MOST 1048576: true; the input reads as it did. -/
def bagBoundsUptoRow : OpenClaim := { program := "ytoofekeenbllhaa", sum := "618160fab84131e807131b79f06c1b3032986aeffd7aa11ae3568ef04ee0c8db", func := "pitot/pitotlaw12.BagBounds", spec := "bagBounds", apart := false, narrowed := true }
def BagBoundsUptoSaid : Prop := bagBoundsUptoRow.holds Try.pinned (OpenSpec.upto bagBoundsSpec)

/-- 'pitotlaw12.BagSoon', WHERE WHAT IT READS IS OF BULK AT MOST 1048576: true; the input reads as it did. -/
def bagSoonUptoRow : OpenClaim := { program := "ytoofekeenbllhaa", sum := "618160fab84131e807131b79f06c1b3032986aeffd7aa11ae3568ef04ee0c8db", func := "pitot/pitotlaw12.BagSoon", spec := "bagSoon", apart := false, narrowed := true }
def BagSoonUptoSaid : Prop := bagSoonUptoRow.holds Try.pinned (OpenSpec.upto bagSoonSpec)

/-- 'pitotlaw12.BagDoubles', WHERE WHAT IT READS IS OF BULK AT MOST 1048576: true; the input reads as it did. -/
def bagDoublesUptoRow : OpenClaim := { program := "ytoofekeenbllhaa", sum := "618160fab84131e807131b79f06c1b3032986aeffd7aa11ae3568ef04ee0c8db", func := "pitot/pitotlaw12.BagDoubles", spec := "bagDoubles", apart := false, narrowed := true }
def BagDoublesUptoSaid : Prop := bagDoublesUptoRow.holds Try.pinned (OpenSpec.upto bagDoublesSpec)

/-- 'pitotlaw12.BagApart', WHERE WHAT IT READS IS OF BULK AT MOST 1048576: true; the input reads as it did. -/
def bagApartUptoRow : OpenClaim := { program := "ytoofekeenbllhaa", sum := "618160fab84131e807131b79f06c1b3032986aeffd7aa11ae3568ef04ee0c8db", func := "pitot/pitotlaw12.BagApart", spec := "bagApart", apart := false, narrowed := true }
def BagApartUptoSaid : Prop := bagApartUptoRow.holds Try.pinned (OpenSpec.upto bagApartSpec)

/-- 'pitotlaw12.BagPlays', WHERE WHAT IT READS IS OF BULK AT MOST 1048576: true; the input reads as it did. -/
def bagPlaysUptoRow : OpenClaim := { program := "ytoofekeenbllhaa", sum := "618160fab84131e807131b79f06c1b3032986aeffd7aa11ae3568ef04ee0c8db", func := "pitot/pitotlaw12.BagPlays", spec := "bagPlays", apart := false, narrowed := true }
def BagPlaysUptoSaid : Prop := bagPlaysUptoRow.holds Try.pinned (OpenSpec.upto bagPlaysSpec)

/-- 'pitotlaw12.BagNil', WHERE WHAT IT READS IS OF BULK AT MOST 1048576: true; the input reads as it did. -/
def bagNilUptoRow : OpenClaim := { program := "ytoofekeenbllhaa", sum := "618160fab84131e807131b79f06c1b3032986aeffd7aa11ae3568ef04ee0c8db", func := "pitot/pitotlaw12.BagNil", spec := "bagNil", apart := false, narrowed := true }
def BagNilUptoSaid : Prop := bagNilUptoRow.holds Try.pinned (OpenSpec.upto bagNilSpec)

end Rows
end Go.Proofs.Ytoofekeenbllhaa
