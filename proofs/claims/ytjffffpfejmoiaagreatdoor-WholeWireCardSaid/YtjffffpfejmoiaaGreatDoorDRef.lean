import Derived.Test.YtjffffpfejmoiaaGreatDoorDMem
import Derived.Test.YtjffffpfejmoiaaGreatDoorGXf
import Derived.Test.YtjffffpfejmoiaaGreatDoorGXg
import Derived.Deep.RegionHeld3
import Derived.Deep.AppendLies
namespace Go.Proofs.YtjffffpfejmoiaaGreatDoor
open Go.RowKit Syn Hd Fr Ck
end Go.Proofs.YtjffffpfejmoiaaGreatDoor
