/-
  Layer 1: the walk of parts.
-/
import Derived.Test.YtbegpdhkjfdjbaaDoorParts
namespace Go.Proofs.YtbegpdhkjfdjbaaDoor
open Go.RowKit Syn

/-- The number of the error: ErrForm for none. -/
def errO {α : Type} (o : Option α) : Int := if o.isSome then 0 else 2
end Go.Proofs.YtbegpdhkjfdjbaaDoor
