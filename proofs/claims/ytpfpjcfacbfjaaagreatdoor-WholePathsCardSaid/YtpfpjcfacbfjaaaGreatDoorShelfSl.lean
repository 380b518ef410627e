/-
  DERIVED: THE SHELF's CONTRACTS AT THIS DUMP, IN PLAIN WORDS (tools/lay-plain.mjs out of 'TryzShelfSl.lean', which tools/lay-shelf.mjs wrote): THE SAME DECLARATIONS UNDER THE SAME NAMES: 'import', 'namespace', 'open', 'def', 'theorem' AND NOTHING ELSE: no command of the shelf's: FOR A HAND-IN. Each laying: the table of numbers ('.._ren') and one theorem, a field a fact of the dump's own or the kernel's comparison; each contract: ONE APPLICATION.
-/
import Derived.Shelf.SlGeneric
import Derived.WalkKit
import Derived.Ground.Names2Prog
import Derived.Ground.NamesProg
import Derived.Ground.SlsoProg
import Derived.Ground.SlgfProg
import Derived.Shelf.Spec.SearchS
import Derived.Shelf.Spec.SlicesInsertGrow
import Derived.Shelf.Slices.Delete
import Derived.Shelf.Slices.Clone
import Derived.Shelf.Slices.Turned
import Derived.Shelf.SlSorted.Search
import Derived.Shelf.SlicesQ.IndexFunc
import Derived.Test.YtpfpjcfacbfjaaaGreatDoorProg
namespace Go.Proofs
open Go.Shelf
def Tryz.l2s26_ren : Go.Shelf.Ren := ⟨fun | 26 => 21 | 33 => 40 | 34 => 41 | 38 => 58 | n => n, fun | 24 => 32 | 9 => 9 | 3 => 3 | 4 => 4 | 40 => 81 | 0 => 0 | n => n, fun | n => n⟩
theorem Tryz.l2s26 : Go.Proofs.Lays2.n26 Tryz.prog Tryz.l2s26_ren := {
  mixed := by kernel_rfl
  f26 := Tryz.func21.trans (congrArg some (by kernel_rfl))
  f33 := Tryz.func40.trans (congrArg some (by kernel_rfl))
  f34 := Tryz.func41.trans (congrArg some (by kernel_rfl))
  f38 := Tryz.func58.trans (congrArg some (by kernel_rfl))
  t0 := Tryz.underlying0
  a0 := Tryz.isAgg0
  z0 := Tryz.sizeOf0
  v0 := Tryz.zeroValue0
  t3 := Tryz.underlying3
  a3 := Tryz.isAgg3
  z3 := Tryz.sizeOf3
  v3 := Tryz.zeroValue3
  t4 := Tryz.underlying4
  a4 := Tryz.isAgg4
  z4 := Tryz.sizeOf4
  v4 := Tryz.zeroValue4
  t9 := Tryz.underlying9
  a9 := Tryz.isAgg9
  z9 := Tryz.sizeOf9
  v9 := Tryz.zeroValue9
  t24 := Tryz.underlying32
  a24 := Tryz.isAgg32
  z24 := Tryz.sizeOf32
  v24 := Tryz.zeroValue32
  t40 := Tryz.underlying81
  a40 := Tryz.isAgg81
  z40 := Tryz.sizeOf81
  v40 := Tryz.zeroValue81 }
def Tryz.l2s22_ren : Go.Shelf.Ren := ⟨fun | 22 => 22 | 29 => 42 | 30 => 43 | 36 => 59 | 17 => 96 | n => n, fun | 24 => 32 | 9 => 9 | 3 => 3 | 4 => 4 | 0 => 0 | n => n, fun | n => n⟩
theorem Tryz.l2s22 : Go.Proofs.Lays2.n22 Tryz.prog Tryz.l2s22_ren := {
  mixed := by kernel_rfl
  f17 := Tryz.func96.trans (congrArg some (by kernel_rfl))
  f22 := Tryz.func22.trans (congrArg some (by kernel_rfl))
  f29 := Tryz.func42.trans (congrArg some (by kernel_rfl))
  f30 := Tryz.func43.trans (congrArg some (by kernel_rfl))
  f36 := Tryz.func59.trans (congrArg some (by kernel_rfl))
  t0 := Tryz.underlying0
  a0 := Tryz.isAgg0
  z0 := Tryz.sizeOf0
  v0 := Tryz.zeroValue0
  t3 := Tryz.underlying3
  a3 := Tryz.isAgg3
  z3 := Tryz.sizeOf3
  v3 := Tryz.zeroValue3
  t4 := Tryz.underlying4
  a4 := Tryz.isAgg4
  z4 := Tryz.sizeOf4
  v4 := Tryz.zeroValue4
  t9 := Tryz.underlying9
  a9 := Tryz.isAgg9
  z9 := Tryz.sizeOf9
  v9 := Tryz.zeroValue9
  t24 := Tryz.underlying32
  a24 := Tryz.isAgg32
  z24 := Tryz.sizeOf32
  v24 := Tryz.zeroValue32
  i9 := by kernel_rfl }
def Tryz.l2s24_ren : Go.Shelf.Ren := ⟨fun | 24 => 37 | n => n, fun | 24 => 32 | 9 => 9 | 3 => 3 | 4 => 4 | 0 => 0 | n => n, fun | n => n⟩
theorem Tryz.l2s24 : Go.Proofs.Lays2.n24 Tryz.prog Tryz.l2s24_ren := {
  mixed := by kernel_rfl
  f24 := Tryz.func37.trans (congrArg some (by kernel_rfl))
  t0 := Tryz.underlying0
  a0 := Tryz.isAgg0
  z0 := Tryz.sizeOf0
  v0 := Tryz.zeroValue0
  t3 := Tryz.underlying3
  a3 := Tryz.isAgg3
  z3 := Tryz.sizeOf3
  v3 := Tryz.zeroValue3
  t4 := Tryz.underlying4
  a4 := Tryz.isAgg4
  z4 := Tryz.sizeOf4
  v4 := Tryz.zeroValue4
  t9 := Tryz.underlying9
  a9 := Tryz.isAgg9
  z9 := Tryz.sizeOf9
  v9 := Tryz.zeroValue9
  t24 := Tryz.underlying32
  a24 := Tryz.isAgg32
  z24 := Tryz.sizeOf32
  v24 := Tryz.zeroValue32
  i9 := by kernel_rfl }
def Tryz.l2s16_ren : Go.Shelf.Ren := ⟨fun | 16 => 32 | n => n, fun | 24 => 32 | 9 => 9 | 4 => 4 | n => n, fun | n => n⟩
theorem Tryz.l2s16 : Go.Proofs.Lays2.n16 Tryz.prog Tryz.l2s16_ren := {
  mixed := by kernel_rfl
  f16 := Tryz.func32.trans (congrArg some (by kernel_rfl))
  t4 := Tryz.underlying4
  a4 := Tryz.isAgg4
  z4 := Tryz.sizeOf4
  v4 := Tryz.zeroValue4
  t9 := Tryz.underlying9
  a9 := Tryz.isAgg9
  z9 := Tryz.sizeOf9
  v9 := Tryz.zeroValue9
  t24 := Tryz.underlying32
  a24 := Tryz.isAgg32
  z24 := Tryz.sizeOf32
  v24 := Tryz.zeroValue32
  i9 := by kernel_rfl }
def Tryz.l1s110_ren : Go.Shelf.Ren := ⟨fun | 110 => 28 | 109 => 49 | n => n, fun | 31 => 32 | 9 => 9 | 4 => 4 | 3 => 3 | 0 => 0 | n => n, fun | n => n⟩
theorem Tryz.l1s110 : Go.Proofs.Lays.n110 Tryz.prog Tryz.l1s110_ren := {
  mixed := by kernel_rfl
  f109 := Tryz.func49.trans (congrArg some (by kernel_rfl))
  f110 := Tryz.func28.trans (congrArg some (by kernel_rfl))
  t0 := Tryz.underlying0
  a0 := Tryz.isAgg0
  z0 := Tryz.sizeOf0
  v0 := Tryz.zeroValue0
  t3 := Tryz.underlying3
  a3 := Tryz.isAgg3
  z3 := Tryz.sizeOf3
  v3 := Tryz.zeroValue3
  t4 := Tryz.underlying4
  a4 := Tryz.isAgg4
  z4 := Tryz.sizeOf4
  v4 := Tryz.zeroValue4
  t9 := Tryz.underlying9
  a9 := Tryz.isAgg9
  z9 := Tryz.sizeOf9
  v9 := Tryz.zeroValue9
  t31 := Tryz.underlying32
  a31 := Tryz.isAgg32
  z31 := Tryz.sizeOf32
  v31 := Tryz.zeroValue32 }
def Tryz.los16_ren : Go.Shelf.Ren := ⟨fun | 16 => 26 | n => n, fun | 3 => 3 | 35 => 69 | 4 => 4 | 38 => 81 | n => n, fun | n => n⟩
theorem Tryz.los16 : Go.Proofs.SlLaysO.n16 Tryz.prog Tryz.los16_ren := {
  mixed := by kernel_rfl
  f16 := Tryz.func26.trans (congrArg some (by kernel_rfl))
  t3 := Tryz.underlying3
  a3 := Tryz.isAgg3
  z3 := Tryz.sizeOf3
  v3 := Tryz.zeroValue3
  t4 := Tryz.underlying4
  a4 := Tryz.isAgg4
  z4 := Tryz.sizeOf4
  v4 := Tryz.zeroValue4
  t35 := Tryz.underlying69
  a35 := Tryz.isAgg69
  z35 := Tryz.sizeOf69
  v35 := Tryz.zeroValue69
  t38 := Tryz.underlying81
  a38 := Tryz.isAgg81
  z38 := Tryz.sizeOf81
  v38 := Tryz.zeroValue81 }
def Tryz.lh6_ren : Go.Shelf.Ren := ⟨fun | 6 => 57 | n => n, fun | 22 => 49 | 23 => 63 | 25 => 80 | 3 => 3 | 0 => 0 | 4 => 4 | n => n, fun | n => n⟩
theorem Tryz.lh6 : Go.Proofs.SlLaysH0.n6 Tryz.prog Tryz.lh6_ren := {
  mixed := by kernel_rfl
  f6 := ⟨Tryz.f57.name, by decide, Tryz.func57.trans (congrArg some (by kernel_rfl))⟩
  t0 := Tryz.underlying0
  a0 := Tryz.isAgg0
  z0 := Tryz.sizeOf0
  v0 := Tryz.zeroValue0
  t3 := Tryz.underlying3
  a3 := Tryz.isAgg3
  z3 := Tryz.sizeOf3
  v3 := Tryz.zeroValue3
  t4 := Tryz.underlying4
  a4 := Tryz.isAgg4
  z4 := Tryz.sizeOf4
  v4 := Tryz.zeroValue4
  t22 := Tryz.underlying49
  a22 := Tryz.isAgg49
  z22 := Tryz.sizeOf49
  v22 := Tryz.zeroValue49
  t25 := Tryz.underlying80
  a25 := Tryz.isAgg80
  z25 := Tryz.sizeOf80
  v25 := Tryz.zeroValue80 }
end Go.Proofs
