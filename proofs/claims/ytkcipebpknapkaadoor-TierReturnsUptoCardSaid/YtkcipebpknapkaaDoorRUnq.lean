/-
  Layer 1: the document's Unquote.
-/
import Derived.Test.YtkcipebpknapkaaDoorUnq
namespace Go.Proofs.YtkcipebpknapkaaDoor
open Go.RowKit Syn

end Go.Proofs.YtkcipebpknapkaaDoor
