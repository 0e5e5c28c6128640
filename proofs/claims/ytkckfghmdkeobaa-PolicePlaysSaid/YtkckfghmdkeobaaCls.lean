/- A region that draws its order, whose operations read and whose callees make memory and turn nothing old: walked once. Conditions: plain lemmas. -/
import Derived.Test.YtkckfghmdkeobaaBase
namespace Go.Proofs.Ytkckfghmdkeobaa
open Go.RowKit
/-- A world in which all that stood in W stands. -/
def Cls (W : World) : Type := { w : World // Below W.heap.size W w }
instance (W : World) : Nonempty (Cls W) := ⟨⟨W, Below.refl _ _⟩⟩
def Cls.at_ {W : World} (x : Cls W) : World := x.1
theorem Cls.below {W : World} (x : Cls W) : Below W.heap.size W x.at_ := x.2
theorem Cls.cell {W : World} {a : Addr} {v : Value} (h : W.cell? a = some v) (x : Cls W) : x.at_.cell? a = some v := below_cell x.2 h
theorem Cls.then {W : World} (x : Cls W) {w : World} (h : Below x.at_.heap.size x.at_ w) : ∃ y : Cls W, w = y.at_ := ⟨⟨w, below_then x.2 x.2.size h⟩, rfl⟩
theorem Cls.drewN {W : World} (x : Cls W) (n : Nat) : ∃ y : Cls W, x.at_.drewN n = y.at_ := ⟨⟨_, below_drewN x.2 n⟩, rfl⟩
/-- A callee's contract, met in such a world. -/
theorem Cls.calls {P : Program} {f : FuncId} {args : Array Value} {W : World} (x : Cls W) {v : Value} (h : Calls P f args x.at_ fun e w' => e = .returned v ∧ Below x.at_.heap.size x.at_ w') : Calls P f args x.at_ fun e w' => e = .returned v ∧ ∃ y : Cls W, w' = y.at_ :=
  h.mono fun _ _ ⟨he, hb⟩ => ⟨he, x.then hb⟩
theorem Cls.calls_same {P : Program} {f : FuncId} {args : Array Value} {W : World} (x : Cls W) {v : Value} (h : Calls P f args x.at_ fun e w' => e = .returned v ∧ x.at_ = w') : Calls P f args x.at_ fun e w' => e = .returned v ∧ ∃ y : Cls W, w' = y.at_ :=
  h.mono fun _ _ ⟨he, hb⟩ => ⟨he, x, hb.symm⟩
theorem Cls.calls_drew {P : Program} {f : FuncId} {args : Array Value} {W : World} (x : Cls W) {v : Value} (h : Calls P f args x.at_ fun e w' => e = .returned v ∧ ∃ n, w' = x.at_.drewN n) : Calls P f args x.at_ fun e w' => e = .returned v ∧ ∃ y : Cls W, w' = y.at_ :=
  h.mono fun _ _ ⟨he, n, hb⟩ => ⟨he, by rw [hb]; exact x.drewN n⟩
theorem region_cls {P : Program} {l : List Oper} {id : Nat} {Q : Exit → Act → World → Prop} {a : Act} {W : World} (hm : P.follows .mixedOrders = true) (hB : Region.lexB .any l.toArray = true)
    (h : wpQuiet P l.toArray (fun w' => ∃ x : Cls W, w' = x.at_) (fun a' => ∀ w', (∃ x : Cls W, w' = x.at_) → Q .normal a' w') l a) : (Code.region id l.toArray true).wp P Q a W :=
  wp_region_quiet (C := fun w' => ∃ x : Cls W, w' = x.at_) hm hB ⟨⟨W.drew, (Below.refl _ _).drew⟩, rfl⟩ (by simpa using h)
end Go.Proofs.Ytkckfghmdkeobaa
