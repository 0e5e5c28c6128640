/- The runs of the one that sends: made, messages sent, what has gone. Conditions: none; plain definitions, and what they tell. -/
import Derived.Test.YtdgjcjhicbgfaaaGreatMf
set_option linter.unusedVariables false
set_option linter.unusedSimpArgs false
set_option linter.unusedSimpArgs false
set_option linter.unusedVariables false
namespace Go.Proofs.YtdgjcjhicbgfaaaGreat
open Go.RowKit

def runTo (C : Cfg) (n f : Nat) (args : List AV) (σ : St) (v : AV) : Option St := match callA C n f args σ with
  | some (u, σ') => match AV.eqb u v with | true => some σ' | false => none
  | none => none
theorem runTo_some {C : Cfg} {n f : Nat} {args : List AV} {σ σ' : St} {v : AV} (h : runTo C n f args σ v = some σ') : callA C n f args σ = some (v, σ') := by
  unfold runTo at h
  split at h <;> first | (cases h; done) | skip
  rename_i u σ1 hc
  split at h <;> first | (cases h; done) | skip
  rename_i he
  cases h
  rw [hc, AV.eqb_ok _ _ he]
def cfgA : AV := .agg [i64 3, .sl 2 0 3 3, i64 1000, .sl 3 0 3 3, .slu 7 0 0 1 0, .slu 15 0 0 4 0]
def txA : AV := .ptr 27 0
def rxA : AV := .ptr 81 0
noncomputable def sB : Option St := runTo C1 3000 4 [.agg [i64 0, i64 120, i64 0]] ⟨.nil, 0⟩ cfgA
noncomputable def sT : Option St := match sB with | some σ => runTo C1 3000 5 [cfgA, i64 0] σ (.tup [txA, i64 0]) | none => none
noncomputable def sX : Option St := match sT with | some σ => runTo C1 3000 6 [cfgA, i64 1] σ (.tup [rxA, i64 0]) | none => none
def msgT (σ : St) : AV × St := newTxt σ 0 100 .any
/-- The messages sent one behind the other. -/
noncomputable def sendS : Nat → Option (St × List AV)
  | 0 => match sX with | some σ => some (σ, []) | none => none
  | k + 1 => match sendS k with
    | some (σ, ms) => match runTo C1 3000 8 [txA, i64 0, i64 10, (msgT σ).1] (msgT σ).2 (i64 0) with
      | some σ2 => some (σ2, ms ++ [(msgT σ).1])
      | none => none
    | none => none
/-- How a frame's text was made. -/
def textIs (σ : St) (side i : Nat) (m t : AV) : Bool := match provOf σ t with
  | some (.eth net seq d) => match Nat.beq net side, Nat.beq seq i, provOf σ d, lenB σ d with
    | true, true, some (.ip id u), some (lo, hi) => match Nat.beq id i, provOf σ u with
      | true, some (.udp e) => match AV.eqb e m with | true => (if hi ≤ 128 then true else false) | false => false
      | _, _ => false
    | _, _, _, _ => false
  | _ => false
def dOf (σ : St) (t : AV) : Option AV := match provOf σ t with | some (.eth _ _ d) => some d | _ => none
def sameD (σ : St) (ta tb : AV) : Bool := match dOf σ ta, dOf σ tb with | some d, some d' => AV.eqb d d' | _, _ => false
/-- A frame that has gone. -/
def outOne (σ : St) (i : Nat) (m : AV) (l : List AV) : Bool := match l with
  | [_, _, .sym z c, ta, tb] => match σ.heap.get z with
    | some (.num lo hi) => (if lo = 64 then (if hi = 147 then (if c = 12500 * (i : Int) + 20 then (match textIs σ 0 i m ta, textIs σ 1 i m tb with | true, true => sameD σ ta tb | _, _ => false) else false) else false) else false)
    | _ => false
  | _ => false
def outAll (σ : St) (c : List AV) (off : Nat) : List AV → Nat → Bool
  | [], _ => true
  | m :: ms, i => match cut c (off + i * 5) 5 with
    | some l => match outOne σ i m l with | true => outAll σ c off ms (i + 1) | false => false
    | none => false
def outIs (σ : St) (ms : List AV) (o : AV) : Bool := match ms with
  | [] => match o with | .nsl => true | _ => false
  | _ :: _ => match o with
    | .slu b off _ n _ => match σ.heap.get b with
      | some (.cells c _) => match Nat.beq n ms.length with | true => outAll σ c off ms 0 | false => false
      | _ => false
    | _ => false
/-- What the one that receives is made of. -/
def objsR : List (Nat × AO) := [
  (2, .cells [i64 0, i64 1, i64 2] none),
  (3, .cells [i64 0, i64 0, i64 1000, i64 1, i64 0, i64 1000, i64 2, i64 0, i64 1000] none),
  (5, .cells [i64 1] none),
  (7, .cells [i64 10, i64 0, i64 0, i64 200, .bool false, i64 2, i64 60000, .sl 5 0 1 1] (some 8)),
  (15, .cells [i64 10, i64 0, i64 0, i64 2, .bool true, i64 10, i64 0, i64 5, i64 100, i64 1, i64 0, i64 20, i64 1, i64 1, i64 2, .bool false, i64 10, i64 0, i64 5, i64 100, i64 64, i64 0, i64 30, i64 0, i64 0, i64 1, .bool true, i64 10, i64 1, i64 6, i64 20, i64 0, i64 0, i64 31, i64 1, i64 1, i64 1, .bool false, i64 10, i64 0, i64 6, i64 20, i64 0, i64 1000000] (some 11)),
  (48, .map [] 0),
  (49, .cells [.map 48, .nsl, i64 64, i64 1099511627776, i64 0, i64 0] none),
  (79, .map [(i64 10, .ptr 95 0, 0)] 1),
  (80, .map [] 0),
  (81, .cells [i64 3, .sl 2 0 3 3, i64 1000, .sl 3 0 3 3, .slu 7 0 0 1 0, .slu 15 0 0 4 0, i64 1, .map 79, .ptr 49 0, i64 0, .map 80] none),
  (93, .cells [i64 1] (some 1)),
  (95, .cells [i64 10, i64 0, i64 0, i64 200, .bool false, i64 2, i64 60000, .slu 93 0 0 1 0, .ptr 103 0, .ptr 111 0, .ptr 112 0] none),
  (103, .cells [.bool false, i64 0, i64 0, .bool false, i64 0, i64 0] none),
  (111, .cells [.bool false, i64 0, i64 0, .bool false, i64 0, i64 0] none),
  (112, .cells [.nsl, i64 60000, i64 0, i64 0, i64 0, i64 0] none)]
def nxR : Nat := 113
def entsEqb : List (AV × AV × Nat) → List (AV × AV × Nat) → Bool
  | [], [] => true
  | (a, b, c) :: r, (a', b', c') :: r' => match AV.eqb a a', AV.eqb b b', Nat.beq c c' with
    | true, true, true => entsEqb r r'
    | _, _, _ => false
  | _, _ => false
theorem entsEqb_ok : ∀ {a b : List (AV × AV × Nat)}, entsEqb a b = true → a = b
  | [], [], _ => rfl
  | (a, b, c) :: r, (a', b', c') :: r', h => by
    unfold entsEqb at h
    split at h <;> first | (cases h; done) | skip
    rename_i h1 h2 h3
    rw [AV.eqb_ok _ _ h1, AV.eqb_ok _ _ h2, Nat.eq_of_beq_eq_true h3, entsEqb_ok h]
  | [], _ :: _, h => by unfold entsEqb at h; cases h
  | _ :: _, [], h => by unfold entsEqb at h; cases h
def AO.same : AO → AO → Bool
  | .cells c r, .cells c' r' => match AV.eqbL c c', optB r r' with | true, true => true | _, _ => false
  | .map es k, .map es' k' => match entsEqb es es', Nat.beq k k' with | true, true => true | _, _ => false
  | _, _ => false
theorem AO.same_ok {a b : AO} (h : AO.same a b = true) : a = b := by
  unfold AO.same at h
  split at h <;> first | (cases h; done) | skip
  · split at h <;> first | (cases h; done) | skip
    rename_i h1 h2
    rw [AV.eqbL_ok _ _ h1, optB_ok h2]
  · split at h <;> first | (cases h; done) | skip
    rename_i h1 h2
    rw [entsEqb_ok h1, Nat.eq_of_beq_eq_true h2]
def hasAll (σ : St) : List (Nat × AO) → Bool
  | [] => true
  | (i, o) :: r => match σ.heap.get i with
    | some o' => match AO.same o' o with | true => hasAll σ r | false => false
    | none => false
theorem hasAll_ok {σ : St} : ∀ {l : List (Nat × AO)}, hasAll σ l = true → ∀ i o, (i, o) ∈ l → σ.heap.get i = some o
  | [], _, i, o, hm => by simp at hm
  | (j, p) :: r, h, i, o, hm => by
    unfold hasAll at h
    split at h <;> first | (cases h; done) | skip
    rename_i o' hg
    split at h <;> first | (cases h; done) | skip
    rename_i hs
    have := AO.same_ok hs
    subst this
    rcases List.mem_cons.1 hm with e | hm
    · cases e; exact hg
    · exact hasAll_ok h i o hm
/-- What has gone, when so many were sent. -/
noncomputable def passS (n : Nat) : Option (St × List AV × AV) := match sendS n with
  | some (σ, ms) => match callA C1 3000 9 [txA, i64 1073741824] σ with
    | some (.tup [o, .int .i64 e], σ') => match outIs σ' ms o, hasAll σ' objsR with
      | true, true => (if e = 0 then some (σ', ms, o) else none)
      | _, _ => none
    | _ => none
  | none => none
def isS {α : Type} : Option α → Bool
  | some _ => true
  | none => false
end Go.Proofs.YtdgjcjhicbgfaaaGreat
