/- A world for the witness: the listed variables laid. -/
import Derived.Test.YtnieadkafeohlaaGreatDoorGoxClosed
import Derived.Deep.DeepHandedRow
import Derived.Lib.LaidTab
set_option linter.unusedVariables false
namespace Go.X

def litV : Lit → Value
  | .int k n => .int k n
  | .string l => .string ⟨l.toArray⟩
  | .bool b => .bool b
  | .float k n => .float k n
  | .nil => .nilIface
def cells1 : DataW Unit → List Value
  | .lit l => [litV l]
  | _ => []
def cells2 : DataW Unit → List Value
  | .agg l => l.flatMap cells1
  | x => cells1 x
def cells3 : DataW Unit → List Value
  | .agg l => l.flatMap cells2
  | x => cells1 x

def layOne (heap : Array Obj) (g : Nat) (d : DataW Unit) : Array Obj := heap.modify g fun
  | .cells _ t frozen => .cells (cells3 d).toArray t frozen
  | o => o
def layAll : List (Nat × DataW Unit) → Array Obj → Array Obj
  | [], h => h
  | (g, d) :: l, h => layAll l (layOne h g d)
noncomputable def laidWorld (P : Program) (os : Os) (l : List (Nat × DataW Unit)) : World :=
  { World.holding P os ⟨#[], #[], []⟩ with heap := layAll l (World.holding P os ⟨#[], #[], []⟩).heap }
end Go.X
