/-
  What the world's shape gives: bytealg.MaxLen holds an int.
-/
import Derived.Test.YtjffffpfejmoiaaGreatDoorGHd
import Derived.Test.YtjffffpfejmoiaaGreatDoorShelfSpl
namespace Go.Proofs.YtjffffpfejmoiaaGreatDoor
open Go.RowKit Hd
theorem maxl_of {W : World} (h : W.ShapedOpen Tryz.prog) : MaxL W := Tryz.laysM146.s1_3 W h
end Go.Proofs.YtjffffpfejmoiaaGreatDoor
