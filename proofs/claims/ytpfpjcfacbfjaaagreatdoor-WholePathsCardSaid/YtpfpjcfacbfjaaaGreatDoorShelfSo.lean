/-
  DERIVED: THE SHELF's CONTRACTS AT THIS DUMP, IN PLAIN WORDS (tools/lay-plain.mjs out of 'TryzShelfSo.lean', which tools/lay-shelf.mjs wrote): THE SAME DECLARATIONS UNDER THE SAME NAMES: 'import', 'namespace', 'open', 'def', 'theorem' AND NOTHING ELSE: no command of the shelf's: FOR A HAND-IN. Each laying: the table of numbers ('.._ren') and one theorem, a field a fact of the dump's own or the kernel's comparison; each contract: ONE APPLICATION.
-/
import Derived.WalkKit
import Derived.Shelf.Sort.Plain
import Derived.Shelf.Slices.In.SortNone
import Derived.Test.YtpfpjcfacbfjaaaGreatDoorProg
namespace Go.Proofs
open Go.Shelf
def Tryz.lays190_ren : Go.Shelf.Ren := ⟨fun | 190 => 29 | 125 => 47 | 258 => 50 | 128 => 69 | 129 => 70 | 302 => 79 | 303 => 80 | 304 => 81 | 305 => 82 | 306 => 83 | 307 => 84 | 308 => 40 | 309 => 85 | 310 => 86 | 333 => 102 | 329 => 103 | 330 => 104 | 334 => 105 | 335 => 106 | 336 => 58 | 344 => 121 | n => n, fun | 31 => 32 | 9 => 9 | 3 => 3 | 46 => 81 | 0 => 0 | 51 => 111 | 53 => 60 | 4 => 4 | 183 => 122 | 182 => 121 | 131 => 57 | 5 => 5 | 218 => 141 | 222 => 139 | 228 => 155 | 229 => 153 | n => n, fun | n => n⟩
theorem Tryz.lays190 : Go.Proofs.Lays.n190 Tryz.prog Tryz.lays190_ren := {
  mixed := by kernel_rfl
  f125 := Tryz.func47.trans (congrArg some (by kernel_rfl))
  f128 := Tryz.func69.trans (congrArg some (by kernel_rfl))
  f129 := Tryz.func70.trans (congrArg some (by kernel_rfl))
  f190 := Tryz.func29.trans (congrArg some (by kernel_rfl))
  f258 := Tryz.func50.trans (congrArg some (by kernel_rfl))
  f302 := Tryz.func79.trans (congrArg some (by kernel_rfl))
  f303 := Tryz.func80.trans (congrArg some (by kernel_rfl))
  f304 := Tryz.func81.trans (congrArg some (by kernel_rfl))
  f305 := Tryz.func82.trans (congrArg some (by kernel_rfl))
  f306 := Tryz.func83.trans (congrArg some (by kernel_rfl))
  f307 := Tryz.func84.trans (congrArg some (by kernel_rfl))
  f308 := Tryz.func40.trans (congrArg some (by kernel_rfl))
  f309 := Tryz.func85.trans (congrArg some (by kernel_rfl))
  f310 := Tryz.func86.trans (congrArg some (by kernel_rfl))
  f329 := Tryz.func103.trans (congrArg some (by kernel_rfl))
  f330 := Tryz.func104.trans (congrArg some (by kernel_rfl))
  f333 := Tryz.func102.trans (congrArg some (by kernel_rfl))
  f334 := Tryz.func105.trans (congrArg some (by kernel_rfl))
  f335 := Tryz.func106.trans (congrArg some (by kernel_rfl))
  f336 := Tryz.func58.trans (congrArg some (by kernel_rfl))
  f344 := Tryz.func121.trans (congrArg some (by kernel_rfl))
  t0 := Tryz.underlying0
  a0 := Tryz.isAgg0
  z0 := Tryz.sizeOf0
  v0 := Tryz.zeroValue0
  t3 := Tryz.underlying3
  a3 := Tryz.isAgg3
  z3 := Tryz.sizeOf3
  v3 := Tryz.zeroValue3
  t4 := Tryz.underlying4
  a4 := Tryz.isAgg4
  z4 := Tryz.sizeOf4
  v4 := Tryz.zeroValue4
  t5 := Tryz.underlying5
  a5 := Tryz.isAgg5
  z5 := Tryz.sizeOf5
  v5 := Tryz.zeroValue5
  t9 := Tryz.underlying9
  a9 := Tryz.isAgg9
  z9 := Tryz.sizeOf9
  v9 := Tryz.zeroValue9
  t31 := Tryz.underlying32
  a31 := Tryz.isAgg32
  z31 := Tryz.sizeOf32
  v31 := Tryz.zeroValue32
  t46 := Tryz.underlying81
  a46 := Tryz.isAgg81
  z46 := Tryz.sizeOf81
  v46 := Tryz.zeroValue81
  t51 := Tryz.underlying111
  a51 := Tryz.isAgg111
  z51 := Tryz.sizeOf111
  v51 := Tryz.zeroValue111
  t53 := Tryz.underlying60
  a53 := Tryz.isAgg60
  z53 := Tryz.sizeOf60
  v53 := Tryz.zeroValue60
  t131 := Tryz.underlying57
  a131 := Tryz.isAgg57
  z131 := Tryz.sizeOf57
  v131 := Tryz.zeroValue57
  t182 := Tryz.underlying121
  a182 := Tryz.isAgg121
  z182 := Tryz.sizeOf121
  v182 := Tryz.zeroValue121
  t183 := Tryz.underlying122
  a183 := Tryz.isAgg122
  z183 := Tryz.sizeOf122
  v183 := Tryz.zeroValue122
  t218 := Tryz.underlying141
  a218 := Tryz.isAgg141
  z218 := Tryz.sizeOf141
  v218 := Tryz.zeroValue141
  t222 := Tryz.underlying139
  a222 := Tryz.isAgg139
  z222 := Tryz.sizeOf139
  v222 := Tryz.zeroValue139
  t228 := Tryz.underlying155
  a228 := Tryz.isAgg155
  z228 := Tryz.sizeOf155
  v228 := Tryz.zeroValue155
  t229 := Tryz.underlying153
  a229 := Tryz.isAgg153
  z229 := Tryz.sizeOf153
  v229 := Tryz.zeroValue153 }
end Go.Proofs
