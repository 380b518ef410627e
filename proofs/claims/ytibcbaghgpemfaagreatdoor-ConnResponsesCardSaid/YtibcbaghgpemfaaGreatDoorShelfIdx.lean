import Derived.WalkKit
import Derived.Shelf.Bytes.SlIndexWhole
import Derived.Shelf.Bytes.SlSmallAll
import Derived.Test.YtibcbaghgpemfaaGreatDoorProg
namespace Go.Proofs
open Go.Shelf
def Tryz.lays185_ren : Go.Shelf.Ren:=⟨fun | 185 => 131 | 187 => 163 | 115 => 162 | 253 => 164 | 224 => 165 | 254 => 166 | 255 => 190 | 291 => 191 | n => n,fun | 37 => 23 | 3 => 3 | 4 => 4 | 0 => 0 | 5 => 5 | 46 => 212 | 9 => 9 | 146 => 231 | 51 => 230 | n => n,fun | 1 => 0 | n => n⟩
theorem Tryz.lays185 : Go.Proofs.Lays.n185 Tryz.prog Tryz.lays185_ren:={
 mixed:=by kernel_rfl
 f115:=Tryz.func162.trans (congrArg some (by kernel_rfl))
 f185:=Tryz.func131.trans (congrArg some (by kernel_rfl))
 f187:=Tryz.func163.trans (congrArg some (by kernel_rfl))
 f224:=Tryz.func165.trans (congrArg some (by kernel_rfl))
 f253:=Tryz.func164.trans (congrArg some (by kernel_rfl))
 f254:=Tryz.func166.trans (congrArg some (by kernel_rfl))
 f255:=Tryz.func190.trans (congrArg some (by kernel_rfl))
 f291:=Tryz.func191.trans (congrArg some (by kernel_rfl))
 t0:=Tryz.underlying0
 a0:=Tryz.isAgg0
 z0:=Tryz.sizeOf0
 v0:=Tryz.zeroValue0
 t3:=Tryz.underlying3
 a3:=Tryz.isAgg3
 z3:=Tryz.sizeOf3
 v3:=Tryz.zeroValue3
 t4:=Tryz.underlying4
 a4:=Tryz.isAgg4
 z4:=Tryz.sizeOf4
 v4:=Tryz.zeroValue4
 t5:=Tryz.underlying5
 a5:=Tryz.isAgg5
 z5:=Tryz.sizeOf5
 v5:=Tryz.zeroValue5
 t9:=Tryz.underlying9
 a9:=Tryz.isAgg9
 z9:=Tryz.sizeOf9
 v9:=Tryz.zeroValue9
 t37:=Tryz.underlying23
 a37:=Tryz.isAgg23
 z37:=Tryz.sizeOf23
 v37:=Tryz.zeroValue23
 t46:=Tryz.underlying212
 a46:=Tryz.isAgg212
 z46:=Tryz.sizeOf212
 v46:=Tryz.zeroValue212
 t51:=Tryz.underlying230
 a51:=Tryz.isAgg230
 z51:=Tryz.sizeOf230
 v51:=Tryz.zeroValue230
 t146:=Tryz.underlying231
 a146:=Tryz.isAgg231
 z146:=Tryz.sizeOf231
 v146:=Tryz.zeroValue231
 g1:=by kernel_rfl }
def Tryz.laysb116_ren : Go.Shelf.Ren:=⟨fun | 116 => 130 | 115 => 162 | n => n,fun | 37 => 23 | 4 => 4 | 3 => 3 | 9 => 9 | 5 => 5 | n => n,fun | n => n⟩
theorem Tryz.laysb116 : Go.Proofs.Lays.nb116 Tryz.prog Tryz.laysb116_ren:={
 mixed:=by kernel_rfl
 f115:=Tryz.func162.trans (congrArg some (by kernel_rfl))
 f116:=Tryz.func130.trans (congrArg some (by kernel_rfl))
 t3:=Tryz.underlying3
 a3:=Tryz.isAgg3
 z3:=Tryz.sizeOf3
 v3:=Tryz.zeroValue3
 t4:=Tryz.underlying4
 a4:=Tryz.isAgg4
 z4:=Tryz.sizeOf4
 v4:=Tryz.zeroValue4
 t9:=Tryz.underlying9
 a9:=Tryz.isAgg9
 z9:=Tryz.sizeOf9
 v9:=Tryz.zeroValue9
 t37:=Tryz.underlying23
 a37:=Tryz.isAgg23
 z37:=Tryz.sizeOf23
 v37:=Tryz.zeroValue23
 t5:=Tryz.underlying5
 a5:=Tryz.isAgg5
 z5:=Tryz.sizeOf5
 v5:=Tryz.zeroValue5 }
end Go.Proofs
