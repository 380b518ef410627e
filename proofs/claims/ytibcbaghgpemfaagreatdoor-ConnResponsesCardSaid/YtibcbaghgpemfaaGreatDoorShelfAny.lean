import Derived.WalkKit
import Derived.Shelf.Strings.IndexAnyAll
import Derived.Test.YtibcbaghgpemfaaGreatDoorProg
namespace Go.Proofs
open Go.Shelf
def Tryz.lays150_ren : Go.Shelf.Ren:=⟨fun | 150 => 134 | 153 => 171 | 152 => 194 | 226 => 195 | 227 => 146 | 228 => 176 | 137 => 157 | 119 => 208 | 224 => 165 | 225 => 168 | 217 => 167 | 266 => 192 | n => n,fun | 9 => 9 | 4 => 4 | 3 => 3 | 5 => 5 | 21 => 21 | 117 => 197 | 116 => 196 | 0 => 0 | 46 => 212 | 124 => 200 | n => n,fun | n => n⟩
theorem Tryz.lays150 : Go.Proofs.Lays.n150 Tryz.prog Tryz.lays150_ren:={
 mixed:=by kernel_rfl
 f119:=Tryz.func208.trans (congrArg some (by kernel_rfl))
 f137:=Tryz.func157.trans (congrArg some (by kernel_rfl))
 f150:=Tryz.func134.trans (congrArg some (by kernel_rfl))
 f152:=Tryz.func194.trans (congrArg some (by kernel_rfl))
 f153:=Tryz.func171.trans (congrArg some (by kernel_rfl))
 f217:=Tryz.func167.trans (congrArg some (by kernel_rfl))
 f224:=Tryz.func165.trans (congrArg some (by kernel_rfl))
 f225:=Tryz.func168.trans (congrArg some (by kernel_rfl))
 f226:=Tryz.func195.trans (congrArg some (by kernel_rfl))
 f227:=Tryz.func146.trans (congrArg some (by kernel_rfl))
 f228:=Tryz.func176.trans (congrArg some (by kernel_rfl))
 f266:=Tryz.func192.trans (congrArg some (by kernel_rfl))
 t0:=Tryz.underlying0
 a0:=Tryz.isAgg0
 z0:=Tryz.sizeOf0
 v0:=Tryz.zeroValue0
 t3:=Tryz.underlying3
 a3:=Tryz.isAgg3
 z3:=Tryz.sizeOf3
 v3:=Tryz.zeroValue3
 t4:=Tryz.underlying4
 a4:=Tryz.isAgg4
 z4:=Tryz.sizeOf4
 v4:=Tryz.zeroValue4
 t5:=Tryz.underlying5
 a5:=Tryz.isAgg5
 z5:=Tryz.sizeOf5
 v5:=Tryz.zeroValue5
 t9:=Tryz.underlying9
 a9:=Tryz.isAgg9
 z9:=Tryz.sizeOf9
 v9:=Tryz.zeroValue9
 t21:=Tryz.underlying21
 a21:=Tryz.isAgg21
 z21:=Tryz.sizeOf21
 v21:=Tryz.zeroValue21
 t46:=Tryz.underlying212
 a46:=Tryz.isAgg212
 z46:=Tryz.sizeOf212
 v46:=Tryz.zeroValue212
 t116:=Tryz.underlying196
 a116:=Tryz.isAgg196
 z116:=Tryz.sizeOf196
 t117:=Tryz.underlying197
 a117:=Tryz.isAgg197
 z117:=Tryz.sizeOf197
 v117:=Tryz.zeroValue197
 t124:=Tryz.underlying200
 a124:=Tryz.isAgg200
 z124:=Tryz.sizeOf200
 v124:=Tryz.zeroValue200 }
end Go.Proofs
