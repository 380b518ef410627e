/-
  A world for the witnesses: Go's own tables laid.
-/
import Derived.Test.YtjffffpfejmoiaaGreatDoorRows
import Derived.WalkKit
import Derived.ProofKit
import Derived.OpenShut
namespace Go.Proofs.YtjffffpfejmoiaaGreatDoor
open Go.RowKit

def litV : DataW Unit → Value
  | .lit (.int k n) => .int k n
  | _ => .nilIface
def flatV : DataW Unit → List Value
  | .agg l => l.map litV
  | d => [litV d]
def cellsV : DataW Unit → Array Value
  | .agg l => (l.flatMap flatV).toArray
  | d => #[litV d]
def fillCells (cs : Array Value) : Obj → Obj
  | .cells _ t frozen => .cells cs t frozen
  | o => o
/-- The settled world, with the tables. -/
noncomputable def laidWorld5 (os : Os) : World :=
  { World.holding Tryz.prog os ⟨#[], #[], []⟩ with heap := ((World.holding Tryz.prog os ⟨#[], #[], []⟩).heap.modify 3 (fillCells (cellsV Rows.laid_unicode_utf8_acceptRanges))).modify 2 (fillCells (cellsV Rows.laid_unicode_utf8_first)) }
theorem own : ownKnob Tryz.prog.godebug = none := by kernel_rfl
theorem laidOut : laidOutB Tryz.prog = true := by kernel_rfl
end Go.Proofs.YtjffffpfejmoiaaGreatDoor
