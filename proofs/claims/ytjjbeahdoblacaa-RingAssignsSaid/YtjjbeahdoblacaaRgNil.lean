/-
  Layer 31: a nil ring, and one without nodes.
-/
import Derived.Test.YtjjbeahdoblacaaRgName
namespace Go.Proofs.Ytjjbeahdoblacaa
open Go.Shelf Go.RowKit Go.Lib Go.Sort Rg
theorem rem_nil (w : World) (x : ByteArray) : Calls Try.prog 23 #[.pointer none, .string x] w fun e w' => e = .returned (.bool false) ∧ Below w.heap.size w w' := by
  go_enter Try.func23, Try.ntmps23
  go_wp2
  go_ret
  exact ⟨rfl, (Below.refl _ _).alloc (Nat.le_refl _) _⟩
theorem assign_nil (w : World) (x : ByteArray) (m : Option Nat) (n : Int) : Calls Try.prog 21 #[.pointer none, .string x, .map m, .int .i64 n] w fun e w' => e = .returned (.tuple #[.string ⟨#[]⟩, errV 3]) ∧ Below w.heap.size w w' := by
  go_enter Try.func21, Try.ntmps21
  go_wp2
  go_ret2
  exact ⟨rfl, Below.refl _ _⟩
theorem assign_empty (w : World) (B l : Nat) (v1 v2 : Value) (Q : List Pt) (x : ByteArray) (m : Option Nat) (n : Int) (hr : Ring2 w B l v1 v2 [] Q) : Calls Try.prog 21 #[.pointer (some ⟨l, 0, none⟩), .string x, .map m, .int .i64 n] w fun e w' => e = .returned (.tuple #[.string ⟨#[]⟩, errV 3]) ∧ Below w.heap.size w w' := by
  obtain ⟨A1, c1, rfl, hc1, -, -⟩ := Rd.own hr.nodes
  have c0 : w.cell? ⟨l, 0, none⟩ = some (.slice A1 ([] : List Nm).length c1) := hr.blk.cell 0
  have hl := hr.blk.lt
  simp only [List.length_nil] at c0
  clear hr hc1
  go_enter Try.func21, Try.ntmps21
  go_wp2_with fail
  go_ret2
  exact ⟨rfl, Below.refl _ _⟩
end Go.Proofs.Ytjjbeahdoblacaa
