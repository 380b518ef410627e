/-
  A world for the witnesses: Go's five tables laid; and the cell of math/bits' table that base 16 wants.
-/
import Derived.Test.YtbegpdhkjfdjbaaDoorLaid
import Derived.Lib.LaidTab
import Derived.Stop.LaidErr
namespace Go.Proofs.YtbegpdhkjfdjbaaDoor
open Go.RowKit

/-- The settled world, with the tables. -/
noncomputable def laidWorld5 (os : Os) : World :=
  { laidWorld os with heap := (((laidWorld os).heap.modify 0 (fillCells (cellsV Rows.laid_internal_strconv_uint64pow10))).modify 4 (fillCells (cellsV Rows.laid_math_bits_deBruijn32tab))).modify 5 (fillCells (cellsV Rows.laid_math_bits_deBruijn64tab)) }
def tab64 : List Int := [0, 1, 56, 2, 57, 49, 28, 3, 61, 58, 42, 50, 38, 29, 17, 4, 62, 47, 59, 36, 45, 43, 51, 22, 53, 39, 33, 30, 24, 18, 12, 5, 63, 55, 48, 27, 60, 41, 37, 16, 46, 35, 44, 21, 52, 32, 23, 11, 54, 26, 40, 15, 34, 20, 31, 10, 25, 14, 19, 9, 13, 8, 7, 6]
theorem cell64 {W : World} {x : String × DataW Unit} {rest : List (String × DataW Unit)} (hL : laidMet Tryd.prog (x :: ("math/bits.deBruijn64tab", Rows.laid_math_bits_deBruijn64tab) :: rest) W) : W.cell? ⟨5, 15, none⟩ = some (.int .u8 4) := by
  have h := laidMet.tail hL
  rw [show (Rows.laid_math_bits_deBruijn64tab : DataW Unit) = Lib.tabData .u8 tab64 from rfl] at h
  have ht := Lib.tabIs_of_head (g := 5) (t := 134) (e := 5) (n := 64) (by kernel_rfl) (by kernel_rfl) Tryd.underlying134 Tryd.underlying5 (by kernel_rfl) (by kernel_rfl) h
  exact ht.cell (by kernel_rfl) 15 (by decide)
end Go.Proofs.YtbegpdhkjfdjbaaDoor
