import Derived.WalkKit
import Derived.Shelf.Bytes.SlIndexWhole
import Derived.Shelf.Bytes.SlSmallAll
import Derived.Test.YtjffffpfejmoiaaGreatDoorProg
namespace Go.Proofs
open Go.Shelf
def Tryz.lays185_ren : Go.Shelf.Ren:=⟨fun | 185 => 122 | 187 => 139 | 115 => 138 | 253 => 140 | 224 => 119 | 254 => 141 | 255 => 151 | 291 => 152 | n => n,fun | 37 => 23 | 3 => 3 | 4 => 4 | 0 => 0 | 5 => 5 | 46 => 168 | 9 => 9 | 146 => 180 | 51 => 179 | n => n,fun | 1 => 0 | n => n⟩
theorem Tryz.lays185 : Go.Proofs.Lays.n185 Tryz.prog Tryz.lays185_ren:={
 mixed:=by kernel_rfl
 f115:=Tryz.func138.trans (congrArg some (by kernel_rfl))
 f185:=Tryz.func122.trans (congrArg some (by kernel_rfl))
 f187:=Tryz.func139.trans (congrArg some (by kernel_rfl))
 f224:=Tryz.func119.trans (congrArg some (by kernel_rfl))
 f253:=Tryz.func140.trans (congrArg some (by kernel_rfl))
 f254:=Tryz.func141.trans (congrArg some (by kernel_rfl))
 f255:=Tryz.func151.trans (congrArg some (by kernel_rfl))
 f291:=Tryz.func152.trans (congrArg some (by kernel_rfl))
 t0:=Tryz.underlying0
 a0:=Tryz.isAgg0
 z0:=Tryz.sizeOf0
 v0:=Tryz.zeroValue0
 t3:=Tryz.underlying3
 a3:=Tryz.isAgg3
 z3:=Tryz.sizeOf3
 v3:=Tryz.zeroValue3
 t4:=Tryz.underlying4
 a4:=Tryz.isAgg4
 z4:=Tryz.sizeOf4
 v4:=Tryz.zeroValue4
 t5:=Tryz.underlying5
 a5:=Tryz.isAgg5
 z5:=Tryz.sizeOf5
 v5:=Tryz.zeroValue5
 t9:=Tryz.underlying9
 a9:=Tryz.isAgg9
 z9:=Tryz.sizeOf9
 v9:=Tryz.zeroValue9
 t37:=Tryz.underlying23
 a37:=Tryz.isAgg23
 z37:=Tryz.sizeOf23
 v37:=Tryz.zeroValue23
 t46:=Tryz.underlying168
 a46:=Tryz.isAgg168
 z46:=Tryz.sizeOf168
 v46:=Tryz.zeroValue168
 t51:=Tryz.underlying179
 a51:=Tryz.isAgg179
 z51:=Tryz.sizeOf179
 v51:=Tryz.zeroValue179
 t146:=Tryz.underlying180
 a146:=Tryz.isAgg180
 z146:=Tryz.sizeOf180
 v146:=Tryz.zeroValue180
 g1:=by kernel_rfl }
def Tryz.laysb116_ren : Go.Shelf.Ren:=⟨fun | 116 => 121 | 115 => 138 | n => n,fun | 37 => 23 | 4 => 4 | 3 => 3 | 9 => 9 | 5 => 5 | n => n,fun | n => n⟩
theorem Tryz.laysb116 : Go.Proofs.Lays.nb116 Tryz.prog Tryz.laysb116_ren:={
 mixed:=by kernel_rfl
 f115:=Tryz.func138.trans (congrArg some (by kernel_rfl))
 f116:=Tryz.func121.trans (congrArg some (by kernel_rfl))
 t3:=Tryz.underlying3
 a3:=Tryz.isAgg3
 z3:=Tryz.sizeOf3
 v3:=Tryz.zeroValue3
 t4:=Tryz.underlying4
 a4:=Tryz.isAgg4
 z4:=Tryz.sizeOf4
 v4:=Tryz.zeroValue4
 t9:=Tryz.underlying9
 a9:=Tryz.isAgg9
 z9:=Tryz.sizeOf9
 v9:=Tryz.zeroValue9
 t37:=Tryz.underlying23
 a37:=Tryz.isAgg23
 z37:=Tryz.sizeOf23
 v37:=Tryz.zeroValue23
 t5:=Tryz.underlying5
 a5:=Tryz.isAgg5
 z5:=Tryz.sizeOf5
 v5:=Tryz.zeroValue5 }
end Go.Proofs
