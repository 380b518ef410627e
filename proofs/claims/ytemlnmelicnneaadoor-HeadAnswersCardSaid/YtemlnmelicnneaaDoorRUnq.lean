/-
  Layer 1: the document's Unquote.
-/
import Derived.Test.YtemlnmelicnneaaDoorUnq
namespace Go.Proofs.YtemlnmelicnneaaDoor
open Go.RowKit Syn

end Go.Proofs.YtemlnmelicnneaaDoor
