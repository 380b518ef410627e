/-
  DERIVED: THE SHELF's CONTRACTS AT THIS DUMP, IN PLAIN WORDS (tools/lay-plain.mjs out of 'TryzShelfSl.lean', which tools/lay-shelf.mjs wrote): THE SAME DECLARATIONS UNDER THE SAME NAMES: 'import', 'namespace', 'open', 'def', 'theorem' AND NOTHING ELSE: no command of the shelf's: FOR A HAND-IN. Each laying: the table of numbers ('.._ren') and one theorem, a field a fact of the dump's own or the kernel's comparison; each contract: ONE APPLICATION.
-/
import Derived.Shelf.SlGeneric
import Derived.WalkKit
import Derived.Ground.Names2Prog
import Derived.Ground.NamesProg
import Derived.Ground.SlsoProg
import Derived.Ground.SlgfProg
import Derived.Shelf.Spec.SearchS
import Derived.Shelf.Spec.SlicesInsertGrow
import Derived.Shelf.Slices.Delete
import Derived.Shelf.Slices.Clone
import Derived.Shelf.Slices.Turned
import Derived.Shelf.SlSorted.Search
import Derived.Shelf.SlicesQ.IndexFunc
import Derived.Test.YtkcipebpknapkaaGreatDoorProg
namespace Go.Proofs
open Go.Shelf
def Tryz.l2s26_ren : Go.Shelf.Ren := ⟨fun | 26 => 36 | 33 => 48 | 34 => 49 | 38 => 66 | n => n, fun | 24 => 22 | 9 => 9 | 3 => 3 | 4 => 4 | 40 => 79 | 0 => 0 | n => n, fun | n => n⟩
theorem Tryz.l2s26 : Go.Proofs.Lays2.n26 Tryz.prog Tryz.l2s26_ren := {
  mixed := by kernel_rfl
  f26 := Tryz.func36.trans (congrArg some (by kernel_rfl))
  f33 := Tryz.func48.trans (congrArg some (by kernel_rfl))
  f34 := Tryz.func49.trans (congrArg some (by kernel_rfl))
  f38 := Tryz.func66.trans (congrArg some (by kernel_rfl))
  t0 := Tryz.underlying0
  a0 := Tryz.isAgg0
  z0 := Tryz.sizeOf0
  v0 := Tryz.zeroValue0
  t3 := Tryz.underlying3
  a3 := Tryz.isAgg3
  z3 := Tryz.sizeOf3
  v3 := Tryz.zeroValue3
  t4 := Tryz.underlying4
  a4 := Tryz.isAgg4
  z4 := Tryz.sizeOf4
  v4 := Tryz.zeroValue4
  t9 := Tryz.underlying9
  a9 := Tryz.isAgg9
  z9 := Tryz.sizeOf9
  v9 := Tryz.zeroValue9
  t24 := Tryz.underlying22
  a24 := Tryz.isAgg22
  z24 := Tryz.sizeOf22
  v24 := Tryz.zeroValue22
  t40 := Tryz.underlying79
  a40 := Tryz.isAgg79
  z40 := Tryz.sizeOf79
  v40 := Tryz.zeroValue79 }
def Tryz.l2s22_ren : Go.Shelf.Ren := ⟨fun | 22 => 37 | 29 => 50 | 30 => 51 | 36 => 67 | 17 => 100 | n => n, fun | 24 => 22 | 9 => 9 | 3 => 3 | 4 => 4 | 0 => 0 | n => n, fun | n => n⟩
theorem Tryz.l2s22 : Go.Proofs.Lays2.n22 Tryz.prog Tryz.l2s22_ren := {
  mixed := by kernel_rfl
  f17 := Tryz.func100.trans (congrArg some (by kernel_rfl))
  f22 := Tryz.func37.trans (congrArg some (by kernel_rfl))
  f29 := Tryz.func50.trans (congrArg some (by kernel_rfl))
  f30 := Tryz.func51.trans (congrArg some (by kernel_rfl))
  f36 := Tryz.func67.trans (congrArg some (by kernel_rfl))
  t0 := Tryz.underlying0
  a0 := Tryz.isAgg0
  z0 := Tryz.sizeOf0
  v0 := Tryz.zeroValue0
  t3 := Tryz.underlying3
  a3 := Tryz.isAgg3
  z3 := Tryz.sizeOf3
  v3 := Tryz.zeroValue3
  t4 := Tryz.underlying4
  a4 := Tryz.isAgg4
  z4 := Tryz.sizeOf4
  v4 := Tryz.zeroValue4
  t9 := Tryz.underlying9
  a9 := Tryz.isAgg9
  z9 := Tryz.sizeOf9
  v9 := Tryz.zeroValue9
  t24 := Tryz.underlying22
  a24 := Tryz.isAgg22
  z24 := Tryz.sizeOf22
  v24 := Tryz.zeroValue22
  i9 := by kernel_rfl }
def Tryz.l2s16_ren : Go.Shelf.Ren := ⟨fun | 16 => 31 | n => n, fun | 24 => 22 | 9 => 9 | 4 => 4 | n => n, fun | n => n⟩
theorem Tryz.l2s16 : Go.Proofs.Lays2.n16 Tryz.prog Tryz.l2s16_ren := {
  mixed := by kernel_rfl
  f16 := Tryz.func31.trans (congrArg some (by kernel_rfl))
  t4 := Tryz.underlying4
  a4 := Tryz.isAgg4
  z4 := Tryz.sizeOf4
  v4 := Tryz.zeroValue4
  t9 := Tryz.underlying9
  a9 := Tryz.isAgg9
  z9 := Tryz.sizeOf9
  v9 := Tryz.zeroValue9
  t24 := Tryz.underlying22
  a24 := Tryz.isAgg22
  z24 := Tryz.sizeOf22
  v24 := Tryz.zeroValue22
  i9 := by kernel_rfl }
def Tryz.l1s110_ren : Go.Shelf.Ren := ⟨fun | 110 => 24 | 109 => 40 | n => n, fun | 31 => 22 | 9 => 9 | 4 => 4 | 3 => 3 | 0 => 0 | n => n, fun | n => n⟩
theorem Tryz.l1s110 : Go.Proofs.Lays.n110 Tryz.prog Tryz.l1s110_ren := {
  mixed := by kernel_rfl
  f109 := Tryz.func40.trans (congrArg some (by kernel_rfl))
  f110 := Tryz.func24.trans (congrArg some (by kernel_rfl))
  t0 := Tryz.underlying0
  a0 := Tryz.isAgg0
  z0 := Tryz.sizeOf0
  v0 := Tryz.zeroValue0
  t3 := Tryz.underlying3
  a3 := Tryz.isAgg3
  z3 := Tryz.sizeOf3
  v3 := Tryz.zeroValue3
  t4 := Tryz.underlying4
  a4 := Tryz.isAgg4
  z4 := Tryz.sizeOf4
  v4 := Tryz.zeroValue4
  t9 := Tryz.underlying9
  a9 := Tryz.isAgg9
  z9 := Tryz.sizeOf9
  v9 := Tryz.zeroValue9
  t31 := Tryz.underlying22
  a31 := Tryz.isAgg22
  z31 := Tryz.sizeOf22
  v31 := Tryz.zeroValue22 }
def Tryz.los16_ren : Go.Shelf.Ren := ⟨fun | 16 => 28 | n => n, fun | 3 => 3 | 35 => 64 | 4 => 4 | 38 => 79 | n => n, fun | n => n⟩
theorem Tryz.los16 : Go.Proofs.SlLaysO.n16 Tryz.prog Tryz.los16_ren := {
  mixed := by kernel_rfl
  f16 := Tryz.func28.trans (congrArg some (by kernel_rfl))
  t3 := Tryz.underlying3
  a3 := Tryz.isAgg3
  z3 := Tryz.sizeOf3
  v3 := Tryz.zeroValue3
  t4 := Tryz.underlying4
  a4 := Tryz.isAgg4
  z4 := Tryz.sizeOf4
  v4 := Tryz.zeroValue4
  t35 := Tryz.underlying64
  a35 := Tryz.isAgg64
  z35 := Tryz.sizeOf64
  v35 := Tryz.zeroValue64
  t38 := Tryz.underlying79
  a38 := Tryz.isAgg79
  z38 := Tryz.sizeOf79
  v38 := Tryz.zeroValue79 }
end Go.Proofs
