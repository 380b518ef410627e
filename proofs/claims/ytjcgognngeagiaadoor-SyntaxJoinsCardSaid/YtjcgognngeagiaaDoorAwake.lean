/-
  Layer 1: the fixed example.
-/
import Derived.Test.YtjcgognngeagiaaDoorRList
import Derived.Test.YtjcgognngeagiaaDoorNum
namespace Go.Proofs.YtjcgognngeagiaaDoor
open Go.RowKit Syn

theorem tok_a : isTok (bs ⟨#[97]⟩) = true := by decide +kernel
theorem tok_ab : isTok (bs ⟨#[97, 32, 98]⟩) = false := by decide +kernel
theorem num_007 : number (bs ⟨#[48, 48, 55]⟩) = (7, 0) := by decide +kernel
theorem list_abcd : Syn.list (bs ⟨#[97, 44, 32, 34, 98, 44, 99, 34, 32, 44, 44, 32, 100]⟩) = some [[97], [34, 98, 44, 99, 34], [100]] := by decide +kernel
set_option maxRecDepth 100000 in
set_option maxHeartbeats 4000000 in
theorem awake_any (w : World) :
    Calls Tryd.prog 11 #[] w fun e w' => e = .returned (.bool true) ∧ Below w.heap.size w w' := by
  have hL := fun w => list_any ⟨#[97, 44, 32, 34, 98, 44, 99, 34, 32, 44, 44, 32, 100]⟩ w (by decide)
  rw [list_abcd] at hL
  have hN := fun w => number_any ⟨#[48, 48, 55]⟩ w (by decide)
  rw [num_007] at hN
  have hA := fun w => token_any ⟨#[97]⟩ w (by decide)
  rw [tok_a] at hA
  have hAB := fun w => token_any ⟨#[97, 32, 98]⟩ w (by decide)
  rw [tok_ab] at hAB
  go_enter Tryd.func11, Tryd.ntmps11
  go_wp2_with fail
  refine (hL _).mono ?_
  rintro e w1 ⟨v, rfl, hv, hb⟩
  rw [show errV (errO (some [[97], [34, 98, 44, 99, 34], [100]] : Option (List (List UInt8)))) = .nilIface from rfl]
  have hv := Lib.hid hv
  have hb := Lib.hid hb
  go_wp2_with fail
  refine (hN _).mono ?_
  rintro e w2 ⟨rfl, rfl⟩
  rw [show errV (7, 0).2 = .nilIface from rfl, show (((7, 0) : Nat × Int).1 : Int) = 7 from rfl]
  go_wp2_with fail
  have hT : Rd (w2.alloc (.cells #[.string ⟨#[97]⟩, .string ⟨#[34, 98, 44, 99, 34]⟩, .string ⟨#[100]⟩] 9)) 1 (.slice (some ⟨w2.heap.size, 0, none⟩) 3 3) 3 (strs [[97], [34, 98, 44, 99, 34], [100]]) := by
    refine ⟨_, _, rfl, Nat.le_refl _, rfl, fun _ => ⟨_, _, rfl, by simp, fun j u hu => ?_⟩⟩
    rw [Nat.zero_add, (Blk.new w2 9 _).cell j]
    simpa [strs, str] using hu
  refine (texts_any (l1 := [[97], [34, 98, 44, 99, 34], [100]]) (l2 := [[97], [34, 98, 44, 99, 34], [100]]) _ ((Rd.own hv.out).below ((Below.refl _ _).alloc (Nat.le_refl _) _)) hT (by decide)).mono ?_
  rintro e w3 ⟨rfl, n, rfl⟩
  rw [show decide (([[97], [34, 98, 44, 99, 34], [100]] : List (List UInt8)) = [[97], [34, 98, 44, 99, 34], [100]]) = true from by decide]
  go_wp2_with fail
  refine (hA _).mono ?_
  rintro e w4 ⟨rfl, rfl⟩
  go_wp2_with fail
  refine (hAB _).mono ?_
  rintro e w5 ⟨rfl, rfl⟩
  go_wp2
  go_ret
  exact ⟨rfl, below_drewN (hb.out.alloc hb.out.size _) _⟩
end Go.Proofs.YtjcgognngeagiaaDoor
