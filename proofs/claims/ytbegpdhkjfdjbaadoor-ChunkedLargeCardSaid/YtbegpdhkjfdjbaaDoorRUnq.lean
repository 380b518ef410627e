/-
  Layer 1: the document's Unquote.
-/
import Derived.Test.YtbegpdhkjfdjbaaDoorUnq
namespace Go.Proofs.YtbegpdhkjfdjbaaDoor
open Go.RowKit Syn

end Go.Proofs.YtbegpdhkjfdjbaaDoor
