/-
  strings.Builder: the shelf's contracts laid at this program.
-/
import Derived.Test.YtbegpdhkjfdjbaaDoorCMark
import Derived.Shelf.Small.Wraps
import Derived.Shelf.Strings.Builder1
namespace Go.Proofs.YtbegpdhkjfdjbaaDoor
open Go.Shelf Go.RowKit Syn Ck

def bldF : Nat → Nat
  | 166 => 42
  | 169 => 44
  | 170 => 43
  | 240 => 60
  | 276 => 76
  | n => n
def bldT : Nat → Nat
  | 0 => 0
  | 3 => 3
  | 4 => 4
  | 5 => 5
  | 9 => 9
  | 20 => 20
  | 37 => 30
  | 70 => 76
  | 72 => 78
  | 75 => 32
  | 80 => 84
  | 127 => 89
  | 164 => 104
  | n => n
def bldR : Go.Shelf.Ren := ⟨bldF, bldT, fun n => n⟩
theorem bld166 : Go.Proofs.Lays.n166 Tryd.prog bldR := {
  mixed := by kernel_rfl
  f166 := Tryd.func42.trans (congrArg some (by kernel_rfl))
  f240 := Tryd.func60.trans (congrArg some (by kernel_rfl))
  f276 := Tryd.func76.trans (congrArg some (by kernel_rfl))
  t0 := Tryd.underlying0
  a0 := Tryd.isAgg0
  z0 := Tryd.sizeOf0
  v0 := Tryd.zeroValue0
  t3 := Tryd.underlying3
  a3 := Tryd.isAgg3
  z3 := Tryd.sizeOf3
  v3 := Tryd.zeroValue3
  t4 := Tryd.underlying4
  a4 := Tryd.isAgg4
  z4 := Tryd.sizeOf4
  v4 := Tryd.zeroValue4
  t9 := Tryd.underlying9
  a9 := Tryd.isAgg9
  z9 := Tryd.sizeOf9
  v9 := Tryd.zeroValue9
  t20 := by kernel_rfl
  a20 := fun w => by kernel_rfl
  z20 := fun w => by kernel_rfl
  v20 := fun w => by kernel_rfl
  t37 := Tryd.underlying30
  a37 := Tryd.isAgg30
  z37 := Tryd.sizeOf30
  v37 := Tryd.zeroValue30
  t70 := Tryd.underlying76
  a70 := Tryd.isAgg76
  z70 := Tryd.sizeOf76
  v70 := Tryd.zeroValue76
  t72 := Tryd.underlying78
  a72 := Tryd.isAgg78
  z72 := Tryd.sizeOf78
  v72 := Tryd.zeroValue78
  t75 := by kernel_rfl
  a75 := fun w => by kernel_rfl
  z75 := fun w => by kernel_rfl
  v75 := fun w => by kernel_rfl
  t164 := by kernel_rfl
  a164 := fun w => by kernel_rfl
  z164 := fun w => by kernel_rfl
  v164 := fun w => by kernel_rfl }
theorem bld169 : Go.Proofs.Lays.n169 Tryd.prog bldR := {
  mixed := by kernel_rfl
  f169 := Tryd.func44.trans (congrArg some (by kernel_rfl))
  t0 := Tryd.underlying0
  a0 := Tryd.isAgg0
  z0 := Tryd.sizeOf0
  v0 := Tryd.zeroValue0
  t3 := Tryd.underlying3
  a3 := Tryd.isAgg3
  z3 := Tryd.sizeOf3
  v3 := Tryd.zeroValue3
  t9 := Tryd.underlying9
  a9 := Tryd.isAgg9
  z9 := Tryd.sizeOf9
  v9 := Tryd.zeroValue9
  t37 := Tryd.underlying30
  a37 := Tryd.isAgg30
  z37 := Tryd.sizeOf30
  v37 := Tryd.zeroValue30
  t70 := Tryd.underlying76
  a70 := Tryd.isAgg76
  z70 := Tryd.sizeOf76
  v70 := Tryd.zeroValue76
  t72 := Tryd.underlying78
  a72 := Tryd.isAgg78
  z72 := Tryd.sizeOf78
  v72 := Tryd.zeroValue78
  t127 := by kernel_rfl
  a127 := fun w => by kernel_rfl
  z127 := fun w => by kernel_rfl
  v127 := fun w => by kernel_rfl }
theorem bld170 : Go.Proofs.Lays.n170 Tryd.prog bldR := {
  mixed := by kernel_rfl
  f170 := Tryd.func43.trans (congrArg some (by kernel_rfl))
  t0 := Tryd.underlying0
  a0 := Tryd.isAgg0
  z0 := Tryd.sizeOf0
  v0 := Tryd.zeroValue0
  t3 := Tryd.underlying3
  a3 := Tryd.isAgg3
  z3 := Tryd.sizeOf3
  v3 := Tryd.zeroValue3
  t37 := Tryd.underlying30
  a37 := Tryd.isAgg30
  z37 := Tryd.sizeOf30
  v37 := Tryd.zeroValue30
  t70 := Tryd.underlying76
  a70 := Tryd.isAgg76
  z70 := Tryd.sizeOf76
  v70 := Tryd.zeroValue76
  t72 := Tryd.underlying78
  a72 := Tryd.isAgg78
  z72 := Tryd.sizeOf78
  v72 := Tryd.zeroValue78 }
theorem bldX : Builder.Extra Tryd.prog bldR where
  sizeBuilder := by kernel_rfl
  liesBuilder := by kernel_rfl
  t5 := by kernel_rfl
  a5 := fun w => by kernel_rfl
  z5 := fun w => by kernel_rfl
  v5 := fun w => by kernel_rfl
  infoByte := by kernel_rfl
  cellsByte := by kernel_rfl
  sizeByte := by kernel_rfl
  neB5 := by decide +kernel
namespace Ck
/-- A builder of one's own in block b that holds the bytes l. -/
def Bld (w : World) (B b : Nat) (l : List UInt8) : Prop := Lib.IsBuilder 78 5 B b (Lib.byteCells l) w
theorem Bld.new (w : World) : Bld (w.alloc (.cells #[.pointer none, .slice none 0 0] 78)) w.heap.size w.heap.size [] := Lib.fresh_isBuilder _ _ w
theorem strCells_str (l : List UInt8) : Lib.strCells (str l) = Lib.byteCells l := by
  unfold Lib.strCells Lib.byteCells
  simp [str]
theorem byteCells_app (a b : List UInt8) : Lib.byteCells (a ++ b) = Lib.byteCells a ++ Lib.byteCells b := by simp [Lib.byteCells]
end Ck
theorem bwrite_any {w : World} {B b : Nat} {l s : List UInt8} (h : Bld w B b l) (hn : l.length + s.length ≤ 1000000000) (hB : B ≤ w.heap.size) :
    Calls Tryd.prog 42 #[.pointer (some ⟨b, 0, none⟩), .string (str s)] w fun e w' => e = .returned (.tuple #[.int .i64 (s.length : Int), .nilIface]) ∧ Bld w' B b (l ++ s) ∧ Below B w w' := by
  refine (Any.Builder_WriteString bld166 bldX B b (Lib.byteCells l) (str s) w h (by rw [Lib.byteCells_length, str_size]; omega) hB).mono ?_
  rintro e w' ⟨he, h1, h2⟩
  refine ⟨by rw [he, str_size], ?_, h2⟩
  rw [strCells_str, ← byteCells_app] at h1
  exact .inr h1
theorem blen_any {w : World} {B b : Nat} {l : List UInt8} (h : Bld w B b l) :
    Calls Tryd.prog 43 #[.pointer (some ⟨b, 0, none⟩)] w fun e w' => e = .returned (.int .i64 (l.length : Int)) ∧ w' = w := by
  have := Any.Builder_Len bld170 B b (Lib.byteCells l) w h
  rw [Lib.byteCells_length] at this
  exact this
theorem bstring_any {w : World} {B b : Nat} {l : List UInt8} (h : Bld w B b l) (hB : B ≤ w.heap.size) :
    Calls Tryd.prog 44 #[.pointer (some ⟨b, 0, none⟩)] w fun e w' => e = .returned (.string (str l)) ∧ Below B w w' :=
  Any.Builder_String_any bld169 bldX B b l w h hB
end Go.Proofs.YtbegpdhkjfdjbaaDoor
