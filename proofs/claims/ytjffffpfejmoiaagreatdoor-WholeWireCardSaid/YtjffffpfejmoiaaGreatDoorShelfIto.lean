import Derived.WalkKit
import Derived.Shelf.Strconv.Itoa3
import Derived.Test.YtjffffpfejmoiaaGreatDoorProg
namespace Go.Proofs
open Go.Shelf
end Go.Proofs
