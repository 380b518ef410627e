/-
  Layer 1: the document's Unquote.
-/
import Derived.Test.YtodgkppjabhhlaaDoorUnq
namespace Go.Proofs.YtodgkppjabhhlaaDoor
open Go.RowKit Syn

end Go.Proofs.YtodgkppjabhhlaaDoor
