/-
  What the world's shape gives: bytealg.MaxLen holds an int.
-/
import Derived.Test.YtemlnmelicnneaaDoorHEnd
import Derived.Test.YtemlnmelicnneaaDoorShelfSpl
namespace Go.Proofs.YtemlnmelicnneaaDoor
open Go.RowKit Hd
theorem maxl_of {W : World} (h : W.ShapedOpen Tryd.prog) : MaxL W := Tryd.laysM146.s1_3 W h
end Go.Proofs.YtemlnmelicnneaaDoor
