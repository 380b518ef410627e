import Derived.Test.YtjffffpfejmoiaaGreatDoorGHd
import Derived.Test.YtjffffpfejmoiaaGreatDoorShelfSpl
import Derived.Test.YtjffffpfejmoiaaGreatDoorRows
import Derived.WalkKit
import Derived.OpenShut
import Derived.ProofKit
import Derived.Lib.LaidTab
import Derived.Stop.LaidErr
namespace Go.Proofs.YtjffffpfejmoiaaGreatDoor
open Go.RowKit Hd
theorem maxl_of {W : World} (h : W.ShapedOpen Tryz.prog) : MaxL W:=Tryz.laysM146.s1_3 W h
end Go.Proofs.YtjffffpfejmoiaaGreatDoor
namespace Go.Proofs.YtjffffpfejmoiaaGreatDoor
open Go.RowKit
def litV : DataW Unit → Value
 | .lit (.int k n) => .int k n
 | _ => .nilIface
def flatV : DataW Unit → List Value
 | .agg l => l.map litV
 | d => [litV d]
def cellsV : DataW Unit → Array Value
 | .agg l => (l.flatMap flatV).toArray
 | d => #[litV d]
def fillCells (cs : Array Value) : Obj → Obj
 | .cells _ t frozen => .cells cs t frozen
 | o => o
noncomputable def laidWorld5 (os : Os) : World :=
 { World.holding Tryz.prog os ⟨#[],#[],[]⟩ with heap:=((((((World.holding Tryz.prog os ⟨#[],#[],[]⟩).heap.modify 3 (fillCells (cellsV Rows.laid_unicode_utf8_acceptRanges))).modify 2 (fillCells (cellsV Rows.laid_unicode_utf8_first))).modify 1 (fillCells (cellsV Rows.laid_internal_strconv_uint64pow10))).modify 4 (fillCells (cellsV Rows.laid_math_bits_deBruijn32tab))).modify 5 (fillCells (cellsV Rows.laid_math_bits_deBruijn64tab))) }
theorem own : ownKnob Tryz.prog.godebug = none:=by kernel_rfl
theorem laidOut : laidOutB Tryz.prog = true:=by kernel_rfl
def tab64 : List Int:=[0,1,56,2,57,49,28,3,61,58,42,50,38,29,17,4,62,47,59,36,45,43,51,22,53,39,33,30,24,18,12,5,63,55,48,27,60,41,37,16,46,35,44,21,52,32,23,11,54,26,40,15,34,20,31,10,25,14,19,9,13,8,7,6]
theorem cell64 {W : World} {x : String × DataW Unit} {rest : List (String × DataW Unit)} (hL : laidMet Tryz.prog (x :: ("math/bits.deBruijn64tab",Rows.laid_math_bits_deBruijn64tab) :: rest) W) : W.cell? ⟨5,15,none⟩ = some (.int .u8 4):=by
 have h:=laidMet.tail hL; rw [show (Rows.laid_math_bits_deBruijn64tab : DataW Unit) = Lib.tabData .u8 tab64 from rfl] at h
 have ht:=Lib.tabIs_of_head (g:=5) (t:=196) (e:=5) (n:=64) (by kernel_rfl) (by kernel_rfl) Tryz.underlying196 Tryz.underlying5 (by kernel_rfl) (by kernel_rfl) h; exact ht.cell (by kernel_rfl) 15 (by decide)
end Go.Proofs.YtjffffpfejmoiaaGreatDoor
