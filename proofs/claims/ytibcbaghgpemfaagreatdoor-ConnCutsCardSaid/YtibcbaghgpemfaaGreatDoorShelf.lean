/-
  DERIVED: THE SHELF's CONTRACTS AT THIS DUMP, IN PLAIN WORDS (tools/lay-plain.mjs out of 'TryzShelf.lean', which tools/lay-shelf.mjs wrote): THE SAME DECLARATIONS UNDER THE SAME NAMES: 'import', 'namespace', 'open', 'def', 'theorem' AND NOTHING ELSE: no command of the shelf's: FOR A HAND-IN. Each laying: the table of numbers ('.._ren') and one theorem, a field a fact of the dump's own or the kernel's comparison; each contract: ONE APPLICATION.
-/
import Derived.WalkKit
import Derived.Shelf.Small.Strs
import Derived.Shelf.Strings.Search2
import Derived.Shelf.Strings.SlTrimAscii
import Derived.Test.YtibcbaghgpemfaaGreatDoorProg
namespace Go.Proofs
open Go.Shelf
def Tryz.lays137_ren : Go.Shelf.Ren := ⟨fun | 137 => 157 | 217 => 167 | 266 => 192 | n => n, fun | 9 => 9 | 5 => 5 | 3 => 3 | n => n, fun | n => n⟩
theorem Tryz.lays137 : Go.Proofs.Lays.n137 Tryz.prog Tryz.lays137_ren := {
  mixed := by kernel_rfl
  f137 := Tryz.func157.trans (congrArg some (by kernel_rfl))
  f217 := Tryz.func167.trans (congrArg some (by kernel_rfl))
  f266 := Tryz.func192.trans (congrArg some (by kernel_rfl))
  t3 := Tryz.underlying3
  a3 := Tryz.isAgg3
  z3 := Tryz.sizeOf3
  v3 := Tryz.zeroValue3
  t5 := Tryz.underlying5
  a5 := Tryz.isAgg5
  z5 := Tryz.sizeOf5
  v5 := Tryz.zeroValue5
  t9 := Tryz.underlying9
  a9 := Tryz.isAgg9
  z9 := Tryz.sizeOf9
  v9 := Tryz.zeroValue9 }
def Tryz.lays219_ren : Go.Shelf.Ren := ⟨fun | 219 => 132 | 217 => 167 | 225 => 168 | 224 => 165 | 267 => 169 | 266 => 192 | 314 => 193 | n => n, fun | 9 => 9 | 3 => 3 | 4 => 4 | 5 => 5 | 46 => 212 | 146 => 231 | 51 => 230 | n => n, fun | 1 => 0 | n => n⟩
theorem Tryz.lays219 : Go.Proofs.Lays.n219 Tryz.prog Tryz.lays219_ren := {
  mixed := by kernel_rfl
  f217 := Tryz.func167.trans (congrArg some (by kernel_rfl))
  f219 := Tryz.func132.trans (congrArg some (by kernel_rfl))
  f224 := Tryz.func165.trans (congrArg some (by kernel_rfl))
  f225 := Tryz.func168.trans (congrArg some (by kernel_rfl))
  f266 := Tryz.func192.trans (congrArg some (by kernel_rfl))
  f267 := Tryz.func169.trans (congrArg some (by kernel_rfl))
  f314 := Tryz.func193.trans (congrArg some (by kernel_rfl))
  t3 := Tryz.underlying3
  a3 := Tryz.isAgg3
  z3 := Tryz.sizeOf3
  v3 := Tryz.zeroValue3
  t4 := Tryz.underlying4
  a4 := Tryz.isAgg4
  z4 := Tryz.sizeOf4
  v4 := Tryz.zeroValue4
  t5 := Tryz.underlying5
  a5 := Tryz.isAgg5
  z5 := Tryz.sizeOf5
  v5 := Tryz.zeroValue5
  t9 := Tryz.underlying9
  a9 := Tryz.isAgg9
  z9 := Tryz.sizeOf9
  v9 := Tryz.zeroValue9
  t46 := Tryz.underlying212
  a46 := Tryz.isAgg212
  z46 := Tryz.sizeOf212
  v46 := Tryz.zeroValue212
  t51 := Tryz.underlying230
  a51 := Tryz.isAgg230
  z51 := Tryz.sizeOf230
  v51 := Tryz.zeroValue230
  t146 := Tryz.underlying231
  a146 := Tryz.isAgg231
  z146 := Tryz.sizeOf231
  v146 := Tryz.zeroValue231
  g1 := by kernel_rfl }
def Tryz.lays160_ren : Go.Shelf.Ren := ⟨fun | 160 => 116 | 232 => 145 | 231 => 144 | 227 => 146 | 234 => 148 | 233 => 147 | 236 => 150 | 235 => 149 | 228 => 176 | 271 => 179 | 151 => 178 | 197 => 177 | 120 => 201 | 152 => 194 | 260 => 200 | 137 => 157 | 119 => 208 | 224 => 165 | 225 => 168 | 217 => 167 | 266 => 192 | n => n, fun | 9 => 9 | 4 => 4 | 3 => 3 | 5 => 5 | 117 => 197 | 116 => 196 | 0 => 0 | 124 => 200 | 21 => 21 | 105 => 219 | 46 => 212 | 119 => 247 | 139 => 250 | 138 => 249 | n => n, fun | 3 => 2 | 4 => 3 | n => n⟩
theorem Tryz.lays160 : Go.Proofs.Lays.n160 Tryz.prog Tryz.lays160_ren := {
  mixed := by kernel_rfl
  f119 := Tryz.func208.trans (congrArg some (by kernel_rfl))
  f120 := Tryz.func201.trans (congrArg some (by kernel_rfl))
  f137 := Tryz.func157.trans (congrArg some (by kernel_rfl))
  f151 := Tryz.func178.trans (congrArg some (by kernel_rfl))
  f152 := Tryz.func194.trans (congrArg some (by kernel_rfl))
  f160 := Tryz.func116.trans (congrArg some (by kernel_rfl))
  f197 := Tryz.func177.trans (congrArg some (by kernel_rfl))
  f217 := Tryz.func167.trans (congrArg some (by kernel_rfl))
  f224 := Tryz.func165.trans (congrArg some (by kernel_rfl))
  f225 := Tryz.func168.trans (congrArg some (by kernel_rfl))
  f227 := Tryz.func146.trans (congrArg some (by kernel_rfl))
  f228 := Tryz.func176.trans (congrArg some (by kernel_rfl))
  f231 := Tryz.func144.trans (congrArg some (by kernel_rfl))
  f232 := Tryz.func145.trans (congrArg some (by kernel_rfl))
  f233 := Tryz.func147.trans (congrArg some (by kernel_rfl))
  f234 := Tryz.func148.trans (congrArg some (by kernel_rfl))
  f235 := Tryz.func149.trans (congrArg some (by kernel_rfl))
  f236 := Tryz.func150.trans (congrArg some (by kernel_rfl))
  f260 := Tryz.func200.trans (congrArg some (by kernel_rfl))
  f266 := Tryz.func192.trans (congrArg some (by kernel_rfl))
  f271 := Tryz.func179.trans (congrArg some (by kernel_rfl))
  t0 := Tryz.underlying0
  a0 := Tryz.isAgg0
  z0 := Tryz.sizeOf0
  v0 := Tryz.zeroValue0
  t3 := Tryz.underlying3
  a3 := Tryz.isAgg3
  z3 := Tryz.sizeOf3
  v3 := Tryz.zeroValue3
  t4 := Tryz.underlying4
  a4 := Tryz.isAgg4
  z4 := Tryz.sizeOf4
  v4 := Tryz.zeroValue4
  t5 := Tryz.underlying5
  a5 := Tryz.isAgg5
  z5 := Tryz.sizeOf5
  v5 := Tryz.zeroValue5
  t9 := Tryz.underlying9
  a9 := Tryz.isAgg9
  z9 := Tryz.sizeOf9
  v9 := Tryz.zeroValue9
  t21 := Tryz.underlying21
  a21 := Tryz.isAgg21
  z21 := Tryz.sizeOf21
  v21 := Tryz.zeroValue21
  t46 := Tryz.underlying212
  a46 := Tryz.isAgg212
  z46 := Tryz.sizeOf212
  v46 := Tryz.zeroValue212
  t105 := Tryz.underlying219
  a105 := Tryz.isAgg219
  z105 := Tryz.sizeOf219
  v105 := Tryz.zeroValue219
  t116 := Tryz.underlying196
  a116 := Tryz.isAgg196
  z116 := Tryz.sizeOf196
  t117 := Tryz.underlying197
  a117 := Tryz.isAgg197
  z117 := Tryz.sizeOf197
  v117 := Tryz.zeroValue197
  t119 := Tryz.underlying247
  a119 := Tryz.isAgg247
  z119 := Tryz.sizeOf247
  t124 := Tryz.underlying200
  a124 := Tryz.isAgg200
  z124 := Tryz.sizeOf200
  v124 := Tryz.zeroValue200
  t138 := Tryz.underlying249
  a138 := Tryz.isAgg249
  z138 := Tryz.sizeOf249
  v138 := Tryz.zeroValue249
  t139 := Tryz.underlying250
  a139 := Tryz.isAgg250
  z139 := Tryz.sizeOf250
  v139 := Tryz.zeroValue250
  g3 := by kernel_rfl
  g4 := by kernel_rfl }
end Go.Proofs
