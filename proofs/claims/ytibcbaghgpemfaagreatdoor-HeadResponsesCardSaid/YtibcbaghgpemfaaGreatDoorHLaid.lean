/-
  A world for the witnesses: Go's five tables laid; and the table of powers that strconv wants.
-/
import Derived.Test.YtibcbaghgpemfaaGreatDoorGWr
import Derived.ProofKit
import Derived.Lib.LaidTab
import Derived.Stop.LaidErr
namespace Go.Proofs.YtibcbaghgpemfaaGreatDoor
open Go.RowKit

def litV : DataW Unit → Value
  | .lit (.int k n) => .int k n
  | _ => .nilIface
def flatV : DataW Unit → List Value
  | .agg l => l.map litV
  | d => [litV d]
def cellsV : DataW Unit → Array Value
  | .agg l => (l.flatMap flatV).toArray
  | d => #[litV d]
def fillCells (cs : Array Value) : Obj → Obj
  | .cells _ t frozen => .cells cs t frozen
  | o => o
/-- The settled world, with the tables. -/
noncomputable def laidWorld5 (os : Os) : World :=
  { World.holding Tryz.prog os ⟨#[], #[], []⟩ with heap := ((((((World.holding Tryz.prog os ⟨#[], #[], []⟩).heap.modify 3 (fillCells (cellsV Rows.laid_unicode_utf8_acceptRanges))).modify 2 (fillCells (cellsV Rows.laid_unicode_utf8_first))).modify 1 (fillCells (cellsV Rows.laid_internal_strconv_uint64pow10))).modify 4 (fillCells (cellsV Rows.laid_math_bits_deBruijn32tab))).modify 5 (fillCells (cellsV Rows.laid_math_bits_deBruijn64tab))) }
theorem own : ownKnob Tryz.prog.godebug = none := by kernel_rfl
theorem laidOut : laidOutB Tryz.prog = true := by kernel_rfl
theorem pow_tab : (Rows.laid_internal_strconv_uint64pow10 : DataW Unit) = Lib.tabData .u64 Lib.pow10Tab := by rfl
theorem tab10_of {W : World} {x y : String × DataW Unit} {rest : List (String × DataW Unit)} (hL : laidMet Tryz.prog (x :: y :: ("internal/strconv.uint64pow10", Rows.laid_internal_strconv_uint64pow10) :: rest) W) : Tab10 W := by
  have h := laidMet.tail (laidMet.tail hL)
  rw [pow_tab] at h
  exact Lib.tabIs_of_head (g := 1) (t := 241) (e := 206) (n := 20) (by kernel_rfl) (by kernel_rfl) Tryz.underlying241 Tryz.underlying206 (by kernel_rfl) (by kernel_rfl) h
end Go.Proofs.YtibcbaghgpemfaaGreatDoor
