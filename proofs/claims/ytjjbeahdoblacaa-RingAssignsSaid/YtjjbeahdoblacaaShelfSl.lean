/-
  DERIVED: THE SHELF's CONTRACTS AT THIS DUMP, IN PLAIN WORDS (tools/lay-plain.mjs out of 'TryShelfSl.lean', which tools/lay-shelf.mjs wrote): THE SAME DECLARATIONS UNDER THE SAME NAMES: 'import', 'namespace', 'open', 'def', 'theorem' AND NOTHING ELSE: no command of the shelf's: FOR A HAND-IN. Each laying: the table of numbers ('.._ren') and one theorem, a field a fact of the dump's own or the kernel's comparison; each contract: ONE APPLICATION.
-/
import Derived.Shelf.SlGeneric
import Derived.WalkKit
import Derived.Ground.Names2Prog
import Derived.Ground.NamesProg
import Derived.Ground.SlsoProg
import Derived.Ground.SlgfProg
import Derived.Shelf.Spec.SearchS
import Derived.Shelf.Spec.SlicesInsertGrow
import Derived.Shelf.Slices.Delete
import Derived.Shelf.Slices.Clone
import Derived.Shelf.Slices.Turned
import Derived.Shelf.SlSorted.Search
import Derived.Shelf.SlicesQ.IndexFunc
import Derived.Test.YtjjbeahdoblacaaProg
namespace Go.Proofs
open Go.Shelf
def Try.l2s26_ren : Go.Shelf.Ren := ⟨fun | 26 => 32 | 33 => 41 | 34 => 42 | 38 => 51 | n => n, fun | 24 => 29 | 9 => 9 | 3 => 3 | 4 => 4 | 40 => 85 | 0 => 0 | n => n, fun | n => n⟩
theorem Try.l2s26 : Go.Proofs.Lays2.n26 Try.prog Try.l2s26_ren := {
  mixed := by kernel_rfl
  f26 := Try.func32.trans (congrArg some (by kernel_rfl))
  f33 := Try.func41.trans (congrArg some (by kernel_rfl))
  f34 := Try.func42.trans (congrArg some (by kernel_rfl))
  f38 := Try.func51.trans (congrArg some (by kernel_rfl))
  t0 := Try.underlying0
  a0 := Try.isAgg0
  z0 := Try.sizeOf0
  v0 := Try.zeroValue0
  t3 := Try.underlying3
  a3 := Try.isAgg3
  z3 := Try.sizeOf3
  v3 := Try.zeroValue3
  t4 := Try.underlying4
  a4 := Try.isAgg4
  z4 := Try.sizeOf4
  v4 := Try.zeroValue4
  t9 := Try.underlying9
  a9 := Try.isAgg9
  z9 := Try.sizeOf9
  v9 := Try.zeroValue9
  t24 := Try.underlying29
  a24 := Try.isAgg29
  z24 := Try.sizeOf29
  v24 := Try.zeroValue29
  t40 := Try.underlying85
  a40 := Try.isAgg85
  z40 := Try.sizeOf85
  v40 := Try.zeroValue85 }
def Try.l2s22_ren : Go.Shelf.Ren := ⟨fun | 22 => 33 | 29 => 43 | 30 => 44 | 36 => 52 | 17 => 72 | n => n, fun | 24 => 29 | 9 => 9 | 3 => 3 | 4 => 4 | 0 => 0 | n => n, fun | n => n⟩
theorem Try.l2s22 : Go.Proofs.Lays2.n22 Try.prog Try.l2s22_ren := {
  mixed := by kernel_rfl
  f17 := Try.func72.trans (congrArg some (by kernel_rfl))
  f22 := Try.func33.trans (congrArg some (by kernel_rfl))
  f29 := Try.func43.trans (congrArg some (by kernel_rfl))
  f30 := Try.func44.trans (congrArg some (by kernel_rfl))
  f36 := Try.func52.trans (congrArg some (by kernel_rfl))
  t0 := Try.underlying0
  a0 := Try.isAgg0
  z0 := Try.sizeOf0
  v0 := Try.zeroValue0
  t3 := Try.underlying3
  a3 := Try.isAgg3
  z3 := Try.sizeOf3
  v3 := Try.zeroValue3
  t4 := Try.underlying4
  a4 := Try.isAgg4
  z4 := Try.sizeOf4
  v4 := Try.zeroValue4
  t9 := Try.underlying9
  a9 := Try.isAgg9
  z9 := Try.sizeOf9
  v9 := Try.zeroValue9
  t24 := Try.underlying29
  a24 := Try.isAgg29
  z24 := Try.sizeOf29
  v24 := Try.zeroValue29
  i9 := by kernel_rfl }
def Try.l2s24_ren : Go.Shelf.Ren := ⟨fun | 24 => 36 | n => n, fun | 24 => 29 | 9 => 9 | 3 => 3 | 4 => 4 | 0 => 0 | n => n, fun | n => n⟩
theorem Try.l2s24 : Go.Proofs.Lays2.n24 Try.prog Try.l2s24_ren := {
  mixed := by kernel_rfl
  f24 := Try.func36.trans (congrArg some (by kernel_rfl))
  t0 := Try.underlying0
  a0 := Try.isAgg0
  z0 := Try.sizeOf0
  v0 := Try.zeroValue0
  t3 := Try.underlying3
  a3 := Try.isAgg3
  z3 := Try.sizeOf3
  v3 := Try.zeroValue3
  t4 := Try.underlying4
  a4 := Try.isAgg4
  z4 := Try.sizeOf4
  v4 := Try.zeroValue4
  t9 := Try.underlying9
  a9 := Try.isAgg9
  z9 := Try.sizeOf9
  v9 := Try.zeroValue9
  t24 := Try.underlying29
  a24 := Try.isAgg29
  z24 := Try.sizeOf29
  v24 := Try.zeroValue29
  i9 := by kernel_rfl }
def Try.l2s16_ren : Go.Shelf.Ren := ⟨fun | 16 => 31 | n => n, fun | 24 => 29 | 9 => 9 | 4 => 4 | n => n, fun | n => n⟩
theorem Try.l2s16 : Go.Proofs.Lays2.n16 Try.prog Try.l2s16_ren := {
  mixed := by kernel_rfl
  f16 := Try.func31.trans (congrArg some (by kernel_rfl))
  t4 := Try.underlying4
  a4 := Try.isAgg4
  z4 := Try.sizeOf4
  v4 := Try.zeroValue4
  t9 := Try.underlying9
  a9 := Try.isAgg9
  z9 := Try.sizeOf9
  v9 := Try.zeroValue9
  t24 := Try.underlying29
  a24 := Try.isAgg29
  z24 := Try.sizeOf29
  v24 := Try.zeroValue29
  i9 := by kernel_rfl }
def Try.l1s110_ren : Go.Shelf.Ren := ⟨fun | 110 => 30 | 109 => 40 | n => n, fun | 31 => 29 | 9 => 9 | 4 => 4 | 3 => 3 | 0 => 0 | n => n, fun | n => n⟩
theorem Try.l1s110 : Go.Proofs.Lays.n110 Try.prog Try.l1s110_ren := {
  mixed := by kernel_rfl
  f109 := Try.func40.trans (congrArg some (by kernel_rfl))
  f110 := Try.func30.trans (congrArg some (by kernel_rfl))
  t0 := Try.underlying0
  a0 := Try.isAgg0
  z0 := Try.sizeOf0
  v0 := Try.zeroValue0
  t3 := Try.underlying3
  a3 := Try.isAgg3
  z3 := Try.sizeOf3
  v3 := Try.zeroValue3
  t4 := Try.underlying4
  a4 := Try.isAgg4
  z4 := Try.sizeOf4
  v4 := Try.zeroValue4
  t9 := Try.underlying9
  a9 := Try.isAgg9
  z9 := Try.sizeOf9
  v9 := Try.zeroValue9
  t31 := Try.underlying29
  a31 := Try.isAgg29
  z31 := Try.sizeOf29
  v31 := Try.zeroValue29 }
def Try.los16_ren : Go.Shelf.Ren := ⟨fun | 16 => 28 | n => n, fun | 3 => 3 | 35 => 72 | 4 => 4 | 38 => 85 | n => n, fun | n => n⟩
theorem Try.los16 : Go.Proofs.SlLaysO.n16 Try.prog Try.los16_ren := {
  mixed := by kernel_rfl
  f16 := Try.func28.trans (congrArg some (by kernel_rfl))
  t3 := Try.underlying3
  a3 := Try.isAgg3
  z3 := Try.sizeOf3
  v3 := Try.zeroValue3
  t4 := Try.underlying4
  a4 := Try.isAgg4
  z4 := Try.sizeOf4
  v4 := Try.zeroValue4
  t35 := Try.underlying72
  a35 := Try.isAgg72
  z35 := Try.sizeOf72
  v35 := Try.zeroValue72
  t38 := Try.underlying85
  a38 := Try.isAgg85
  z38 := Try.sizeOf85
  v38 := Try.zeroValue85 }
def Try.lh6_ren : Go.Shelf.Ren := ⟨fun | 6 => 50 | n => n, fun | 22 => 67 | 23 => 71 | 25 => 83 | 3 => 3 | 0 => 0 | 4 => 4 | n => n, fun | n => n⟩
theorem Try.lh6 : Go.Proofs.SlLaysH0.n6 Try.prog Try.lh6_ren := {
  mixed := by kernel_rfl
  f6 := ⟨Try.f50.name, by decide, Try.func50.trans (congrArg some (by kernel_rfl))⟩
  t0 := Try.underlying0
  a0 := Try.isAgg0
  z0 := Try.sizeOf0
  v0 := Try.zeroValue0
  t3 := Try.underlying3
  a3 := Try.isAgg3
  z3 := Try.sizeOf3
  v3 := Try.zeroValue3
  t4 := Try.underlying4
  a4 := Try.isAgg4
  z4 := Try.sizeOf4
  v4 := Try.zeroValue4
  t22 := Try.underlying67
  a22 := Try.isAgg67
  z22 := Try.sizeOf67
  v22 := Try.zeroValue67
  t25 := Try.underlying83
  a25 := Try.isAgg83
  z25 := Try.sizeOf83
  v25 := Try.zeroValue83 }
end Go.Proofs
