/- The runs of the one that receives. Conditions: none; plain definitions, and what they tell. -/
import Derived.Test.YtdgjcjhicbgfaaaGreatTa
set_option linter.unusedVariables false
set_option linter.unusedSimpArgs false
set_option linter.unusedSimpArgs false
set_option linter.unusedVariables false
namespace Go.Proofs.YtdgjcjhicbgfaaaGreat
open Go.RowKit

def heapAO : List (Nat × AO) → Tr AO → Tr AO
  | [], t => t
  | (i, o) :: l, t => heapAO l (t.set i o)
def stR0 : St := ⟨heapAO objsR .nil, nxR⟩
/-- What a frame brings with it: when it ends, its two texts; if it is whole, the message in it, the datagram, the packet. -/
def tickR (σ : St) : AV × St := (.sym σ.next 0, σ.add (.num 64 147))
def frameR (σ : St) (i : Nat) (bad : Bool) : AV × AV × AV × AV × St :=
  match tickR σ with
  | (tk, σ0) => match newTxt σ0 0 100 .any with
    | (m, σ1) => match newTxt σ1 8 108 (.udp m) with
      | (u, σ2) => match newTxt σ2 28 128 (.ip i u) with
        | (d, σ3) => match newTxt σ3 64 147 (match bad with | true => .bad | false => .eth 0 i d) with
          | (a, σ4) => match newTxt σ4 64 147 (match bad with | true => .bad | false => .eth 1 i d) with
            | (b, σ5) => (tk, m, a, b, σ5)
def tickAt (tk : AV) (i side : Nat) : AV := match tk with
  | .sym z _ => .sym z (12500 * (i : Int) + 20 + side)
  | v => v
def noMsg : AV := .agg [i64 0, i64 0, .str []]
def isI : AV → Bool
  | .int .i64 _ => true
  | .sym _ _ => true
  | _ => false
def isT : AV → Bool
  | .str _ => true
  | .txt _ => true
  | _ => false
/-- What Take answers, and what is left. -/
noncomputable def takeR (σ : St) (i side : Nat) (bad : Bool) (tk m t : AV) : Option St := match callA C1 3000 10 [rxA, tickAt tk i side, i64 side, t] σ with
  | some (.tup [.agg [x, y, d], .bool is, .int .i64 _], σ') => match isI x, isI y, isT d with
    | true, true, true => match (match bad with | true => true | false => (match side with | 0 => false | _ => true)) with
      | false => match is, AV.eqb d m with | true, true => some σ' | _, _ => none
      | true => match is with | false => some σ' | true => none
    | _, _, _ => none
  | _ => none
/-- A frame taken on both networks. -/
noncomputable def pairR (σ : St) (i : Nat) (bad : Bool) : Option St := match frameR σ i bad with
  | (tk, m, a, b, σ5) => match takeR σ5 i 0 bad tk m a with
    | some σ6 => takeR σ6 i 1 bad tk m b
    | none => none
/-- So many frames taken; the one of the number x is changed. -/
noncomputable def stR (x : Nat) : Nat → Option St
  | 0 => some stR0
  | k + 1 => match stR x k with
    | some σ => pairR σ k (Nat.beq k x)
    | none => none
end Go.Proofs.YtdgjcjhicbgfaaaGreat
