import Derived.Test.YtjffffpfejmoiaaGreatDoorNApp
namespace Go.Proofs.YtjffffpfejmoiaaGreatDoor
open Go.RowKit Syn Hd Fr Ck
namespace Cn
end Cn
end Go.Proofs.YtjffffpfejmoiaaGreatDoor
