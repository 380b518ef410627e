import Derived.WalkKit
import Derived.Shelf.Strings.IndexAnyAll
import Derived.Test.YtjffffpfejmoiaaGreatDoorProg
namespace Go.Proofs
open Go.Shelf
def Tryz.lays150_ren : Go.Shelf.Ren:=⟨fun | 150 => 124 | 153 => 143 | 152 => 134 | 226 => 153 | 227 => 91 | 228 => 111 | 137 => 106 | 119 => 150 | 224 => 119 | 225 => 118 | 217 => 117 | 266 => 136 | n => n,fun | 9 => 9 | 4 => 4 | 3 => 3 | 5 => 5 | 21 => 21 | 117 => 146 | 116 => 145 | 0 => 0 | 46 => 168 | 124 => 149 | n => n,fun | n => n⟩
theorem Tryz.lays150 : Go.Proofs.Lays.n150 Tryz.prog Tryz.lays150_ren:={
 mixed:=by kernel_rfl
 f119:=Tryz.func150.trans (congrArg some (by kernel_rfl))
 f137:=Tryz.func106.trans (congrArg some (by kernel_rfl))
 f150:=Tryz.func124.trans (congrArg some (by kernel_rfl))
 f152:=Tryz.func134.trans (congrArg some (by kernel_rfl))
 f153:=Tryz.func143.trans (congrArg some (by kernel_rfl))
 f217:=Tryz.func117.trans (congrArg some (by kernel_rfl))
 f224:=Tryz.func119.trans (congrArg some (by kernel_rfl))
 f225:=Tryz.func118.trans (congrArg some (by kernel_rfl))
 f226:=Tryz.func153.trans (congrArg some (by kernel_rfl))
 f227:=Tryz.func91.trans (congrArg some (by kernel_rfl))
 f228:=Tryz.func111.trans (congrArg some (by kernel_rfl))
 f266:=Tryz.func136.trans (congrArg some (by kernel_rfl))
 t0:=Tryz.underlying0
 a0:=Tryz.isAgg0
 z0:=Tryz.sizeOf0
 v0:=Tryz.zeroValue0
 t3:=Tryz.underlying3
 a3:=Tryz.isAgg3
 z3:=Tryz.sizeOf3
 v3:=Tryz.zeroValue3
 t4:=Tryz.underlying4
 a4:=Tryz.isAgg4
 z4:=Tryz.sizeOf4
 v4:=Tryz.zeroValue4
 t5:=Tryz.underlying5
 a5:=Tryz.isAgg5
 z5:=Tryz.sizeOf5
 v5:=Tryz.zeroValue5
 t9:=Tryz.underlying9
 a9:=Tryz.isAgg9
 z9:=Tryz.sizeOf9
 v9:=Tryz.zeroValue9
 t21:=Tryz.underlying21
 a21:=Tryz.isAgg21
 z21:=Tryz.sizeOf21
 v21:=Tryz.zeroValue21
 t46:=Tryz.underlying168
 a46:=Tryz.isAgg168
 z46:=Tryz.sizeOf168
 v46:=Tryz.zeroValue168
 t116:=Tryz.underlying145
 a116:=Tryz.isAgg145
 z116:=Tryz.sizeOf145
 t117:=Tryz.underlying146
 a117:=Tryz.isAgg146
 z117:=Tryz.sizeOf146
 v117:=Tryz.zeroValue146
 t124:=Tryz.underlying149
 a124:=Tryz.isAgg149
 z124:=Tryz.sizeOf149
 v124:=Tryz.zeroValue149 }
end Go.Proofs
