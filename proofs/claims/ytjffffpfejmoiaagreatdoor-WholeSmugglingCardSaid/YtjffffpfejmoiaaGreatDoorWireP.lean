/-
  The whole: the request in two chunks with which the statements about messages begin. Plain.
-/
import Derived.Test.YtjffffpfejmoiaaGreatDoorNAwP
import Derived.Test.YtjffffpfejmoiaaGreatDoorNFeedP
import Derived.Test.YtjffffpfejmoiaaGreatDoorGath
namespace Go.Proofs.YtjffffpfejmoiaaGreatDoor
open Go.RowKit Syn Hd Fr Ck
namespace Cn
def wireB : List UInt8 := [71, 69, 84, 32, 47, 97, 32, 72, 84, 84, 80, 47, 49, 46, 49, 13, 10, 104, 111, 115, 116, 58, 32, 97, 13, 10, 116, 114, 97, 110, 115, 102, 101, 114, 45, 101, 110, 99, 111, 100, 105, 110, 103, 58, 32, 99, 104, 117, 110, 107, 101, 100, 13, 10, 13, 10, 49, 13, 10, 120, 13, 10, 50, 13, 10, 121, 122, 13, 10, 48, 13, 10, 13, 10]
def wireF : Flds := [([104, 111, 115, 116], [97]), ([116, 114, 97, 110, 115, 102, 101, 114, 45, 101, 110, 99, 111, 100, 105, 110, 103], [99, 104, 117, 110, 107, 101, 100])]
theorem wire_out : ∃ c', write (new false []) wireB = (c', [evReq [71, 69, 84] [47, 97] wireF, evData [120, 121, 122], evEnd []]) ∧ c'.err = 0 :=
  ⟨(write (new false []) wireB).1, by kernel_rfl, by kernel_rfl⟩
theorem wire_gath : gathered [evReq [71, 69, 84] [47, 97] wireF, evData [120, 121, 122], evEnd []] = [⟨[71, 69, 84], [47, 97], wireF, [120, 121, 122], true⟩] := rfl
end Cn
end Go.Proofs.YtjffffpfejmoiaaGreatDoor
