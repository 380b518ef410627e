/-
  DERIVED: THE SHELF's CONTRACTS AT THIS DUMP, IN PLAIN WORDS (tools/lay-plain.mjs out of 'TrydShelfAny.lean', which tools/lay-shelf.mjs wrote): THE SAME DECLARATIONS UNDER THE SAME NAMES: 'import', 'namespace', 'open', 'def', 'theorem' AND NOTHING ELSE: no command of the shelf's: FOR A HAND-IN. Each laying: the table of numbers ('.._ren') and one theorem, a field a fact of the dump's own or the kernel's comparison; each contract: ONE APPLICATION.
-/
import Derived.WalkKit
import Derived.Shelf.Strings.IndexAnyAll
import Derived.Test.YtemlnmelicnneaaDoorProg
namespace Go.Proofs
open Go.Shelf
def Tryd.lays150_ren : Go.Shelf.Ren := ⟨fun | 150 => 79 | 153 => 105 | 152 => 122 | 226 => 123 | 227 => 83 | 228 => 107 | 137 => 106 | 119 => 128 | 224 => 96 | 225 => 102 | 217 => 101 | 266 => 120 | n => n, fun | 9 => 9 | 4 => 4 | 3 => 3 | 5 => 5 | 21 => 21 | 117 => 110 | 116 => 109 | 0 => 0 | 46 => 122 | 124 => 113 | n => n, fun | n => n⟩
theorem Tryd.lays150 : Go.Proofs.Lays.n150 Tryd.prog Tryd.lays150_ren := {
  mixed := by kernel_rfl
  f119 := Tryd.func128.trans (congrArg some (by kernel_rfl))
  f137 := Tryd.func106.trans (congrArg some (by kernel_rfl))
  f150 := Tryd.func79.trans (congrArg some (by kernel_rfl))
  f152 := Tryd.func122.trans (congrArg some (by kernel_rfl))
  f153 := Tryd.func105.trans (congrArg some (by kernel_rfl))
  f217 := Tryd.func101.trans (congrArg some (by kernel_rfl))
  f224 := Tryd.func96.trans (congrArg some (by kernel_rfl))
  f225 := Tryd.func102.trans (congrArg some (by kernel_rfl))
  f226 := Tryd.func123.trans (congrArg some (by kernel_rfl))
  f227 := Tryd.func83.trans (congrArg some (by kernel_rfl))
  f228 := Tryd.func107.trans (congrArg some (by kernel_rfl))
  f266 := Tryd.func120.trans (congrArg some (by kernel_rfl))
  t0 := Tryd.underlying0
  a0 := Tryd.isAgg0
  z0 := Tryd.sizeOf0
  v0 := Tryd.zeroValue0
  t3 := Tryd.underlying3
  a3 := Tryd.isAgg3
  z3 := Tryd.sizeOf3
  v3 := Tryd.zeroValue3
  t4 := Tryd.underlying4
  a4 := Tryd.isAgg4
  z4 := Tryd.sizeOf4
  v4 := Tryd.zeroValue4
  t5 := Tryd.underlying5
  a5 := Tryd.isAgg5
  z5 := Tryd.sizeOf5
  v5 := Tryd.zeroValue5
  t9 := Tryd.underlying9
  a9 := Tryd.isAgg9
  z9 := Tryd.sizeOf9
  v9 := Tryd.zeroValue9
  t21 := Tryd.underlying21
  a21 := Tryd.isAgg21
  z21 := Tryd.sizeOf21
  v21 := Tryd.zeroValue21
  t46 := Tryd.underlying122
  a46 := Tryd.isAgg122
  z46 := Tryd.sizeOf122
  v46 := Tryd.zeroValue122
  t116 := Tryd.underlying109
  a116 := Tryd.isAgg109
  z116 := Tryd.sizeOf109
  t117 := Tryd.underlying110
  a117 := Tryd.isAgg110
  z117 := Tryd.sizeOf110
  v117 := Tryd.zeroValue110
  t124 := Tryd.underlying113
  a124 := Tryd.isAgg113
  z124 := Tryd.sizeOf113
  v124 := Tryd.zeroValue113 }
end Go.Proofs
