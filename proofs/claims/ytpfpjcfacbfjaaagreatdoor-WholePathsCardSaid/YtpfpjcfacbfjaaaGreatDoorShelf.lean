/-
  DERIVED: THE SHELF's CONTRACTS AT THIS DUMP, IN PLAIN WORDS (tools/lay-plain.mjs out of 'TryzShelf.lean', which tools/lay-shelf.mjs wrote): THE SAME DECLARATIONS UNDER THE SAME NAMES: 'import', 'namespace', 'open', 'def', 'theorem' AND NOTHING ELSE: no command of the shelf's: FOR A HAND-IN. Each laying: the table of numbers ('.._ren') and one theorem, a field a fact of the dump's own or the kernel's comparison; each contract: ONE APPLICATION.
-/
import Derived.WalkKit
import Derived.Shelf.Small.Strs
import Derived.Shelf.Strings.Search2
import Derived.Shelf.Strings.SlTrimAscii
import Derived.Test.YtpfpjcfacbfjaaaGreatDoorProg
namespace Go.Proofs
open Go.Shelf
def Tryz.lays137_ren : Go.Shelf.Ren := ⟨fun | 137 => 114 | 217 => 125 | 266 => 128 | n => n, fun | 9 => 9 | 5 => 5 | 3 => 3 | n => n, fun | n => n⟩
theorem Tryz.lays137 : Go.Proofs.Lays.n137 Tryz.prog Tryz.lays137_ren := {
  mixed := by kernel_rfl
  f137 := Tryz.func114.trans (congrArg some (by kernel_rfl))
  f217 := Tryz.func125.trans (congrArg some (by kernel_rfl))
  f266 := Tryz.func128.trans (congrArg some (by kernel_rfl))
  t3 := Tryz.underlying3
  a3 := Tryz.isAgg3
  z3 := Tryz.sizeOf3
  v3 := Tryz.zeroValue3
  t5 := Tryz.underlying5
  a5 := Tryz.isAgg5
  z5 := Tryz.sizeOf5
  v5 := Tryz.zeroValue5
  t9 := Tryz.underlying9
  a9 := Tryz.isAgg9
  z9 := Tryz.sizeOf9
  v9 := Tryz.zeroValue9 }
def Tryz.lays160_ren : Go.Shelf.Ren := ⟨fun | 160 => 88 | 232 => 109 | 231 => 108 | 227 => 92 | 234 => 111 | 233 => 110 | 236 => 113 | 235 => 112 | 228 => 93 | 271 => 124 | 151 => 123 | 197 => 122 | 120 => 127 | 152 => 90 | 260 => 126 | 137 => 114 | 119 => 115 | 224 => 116 | 225 => 117 | 217 => 125 | 266 => 128 | n => n, fun | 9 => 9 | 4 => 4 | 3 => 3 | 5 => 5 | 117 => 131 | 116 => 130 | 0 => 0 | 124 => 146 | 21 => 21 | 105 => 157 | 46 => 81 | 119 => 160 | 139 => 163 | 138 => 162 | n => n, fun | 3 => 1 | 4 => 2 | n => n⟩
theorem Tryz.lays160 : Go.Proofs.Lays.n160 Tryz.prog Tryz.lays160_ren := {
  mixed := by kernel_rfl
  f119 := Tryz.func115.trans (congrArg some (by kernel_rfl))
  f120 := Tryz.func127.trans (congrArg some (by kernel_rfl))
  f137 := Tryz.func114.trans (congrArg some (by kernel_rfl))
  f151 := Tryz.func123.trans (congrArg some (by kernel_rfl))
  f152 := Tryz.func90.trans (congrArg some (by kernel_rfl))
  f160 := Tryz.func88.trans (congrArg some (by kernel_rfl))
  f197 := Tryz.func122.trans (congrArg some (by kernel_rfl))
  f217 := Tryz.func125.trans (congrArg some (by kernel_rfl))
  f224 := Tryz.func116.trans (congrArg some (by kernel_rfl))
  f225 := Tryz.func117.trans (congrArg some (by kernel_rfl))
  f227 := Tryz.func92.trans (congrArg some (by kernel_rfl))
  f228 := Tryz.func93.trans (congrArg some (by kernel_rfl))
  f231 := Tryz.func108.trans (congrArg some (by kernel_rfl))
  f232 := Tryz.func109.trans (congrArg some (by kernel_rfl))
  f233 := Tryz.func110.trans (congrArg some (by kernel_rfl))
  f234 := Tryz.func111.trans (congrArg some (by kernel_rfl))
  f235 := Tryz.func112.trans (congrArg some (by kernel_rfl))
  f236 := Tryz.func113.trans (congrArg some (by kernel_rfl))
  f260 := Tryz.func126.trans (congrArg some (by kernel_rfl))
  f266 := Tryz.func128.trans (congrArg some (by kernel_rfl))
  f271 := Tryz.func124.trans (congrArg some (by kernel_rfl))
  t0 := Tryz.underlying0
  a0 := Tryz.isAgg0
  z0 := Tryz.sizeOf0
  v0 := Tryz.zeroValue0
  t3 := Tryz.underlying3
  a3 := Tryz.isAgg3
  z3 := Tryz.sizeOf3
  v3 := Tryz.zeroValue3
  t4 := Tryz.underlying4
  a4 := Tryz.isAgg4
  z4 := Tryz.sizeOf4
  v4 := Tryz.zeroValue4
  t5 := Tryz.underlying5
  a5 := Tryz.isAgg5
  z5 := Tryz.sizeOf5
  v5 := Tryz.zeroValue5
  t9 := Tryz.underlying9
  a9 := Tryz.isAgg9
  z9 := Tryz.sizeOf9
  v9 := Tryz.zeroValue9
  t21 := Tryz.underlying21
  a21 := Tryz.isAgg21
  z21 := Tryz.sizeOf21
  v21 := Tryz.zeroValue21
  t46 := Tryz.underlying81
  a46 := Tryz.isAgg81
  z46 := Tryz.sizeOf81
  v46 := Tryz.zeroValue81
  t105 := Tryz.underlying157
  a105 := Tryz.isAgg157
  z105 := Tryz.sizeOf157
  v105 := Tryz.zeroValue157
  t116 := Tryz.underlying130
  a116 := Tryz.isAgg130
  z116 := Tryz.sizeOf130
  t117 := Tryz.underlying131
  a117 := Tryz.isAgg131
  z117 := Tryz.sizeOf131
  v117 := Tryz.zeroValue131
  t119 := Tryz.underlying160
  a119 := Tryz.isAgg160
  z119 := Tryz.sizeOf160
  t124 := Tryz.underlying146
  a124 := Tryz.isAgg146
  z124 := Tryz.sizeOf146
  v124 := Tryz.zeroValue146
  t138 := Tryz.underlying162
  a138 := Tryz.isAgg162
  z138 := Tryz.sizeOf162
  v138 := Tryz.zeroValue162
  t139 := Tryz.underlying163
  a139 := Tryz.isAgg163
  z139 := Tryz.sizeOf163
  v139 := Tryz.zeroValue163
  g3 := by kernel_rfl
  g4 := by kernel_rfl }
end Go.Proofs
