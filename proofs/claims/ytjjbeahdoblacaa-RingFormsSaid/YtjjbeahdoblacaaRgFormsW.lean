/-
  The walk of RingForms.
-/
import Derived.Test.YtjjbeahdoblacaaRgNil
import Derived.Test.YtjjbeahdoblacaaRgAddNo
import Derived.Test.YtjjbeahdoblacaaRgAwake
import Derived.Test.YtjjbeahdoblacaaRgRem
import Derived.IntWalk
namespace Go.Proofs.Ytjjbeahdoblacaa
open Go.Shelf Go.RowKit Go.Lib Go.Sort Rg
set_option maxRecDepth 100000 in
set_option maxHeartbeats 16000000 in
theorem forms_bad (w : World) (x key : Nm) (n : Int) (s : Int) (hs1 : IntKind.i64.wrap (((str x).size : Int) + ((str key).size : Int)) = s) (hs2 : decide (1000 < s) = false) (hE : addE x n [] ≠ 0) :
    Calls Try.prog 9 #[.string (str x), .int .i64 n, .string (str key)] w fun e w' => e = .returned (.bool true) ∧ Below w.heap.size w w' := by
  have hsx : (str x).size = x.length := str_size x
  have hkz : (str key).size = key.length := str_size key
  have hAw := Lib.hid (fun w => awake_any w)
  have hno := fun (w : World) (B l : Nat) (v1 v2 : Value) (hr : Ring2 w B l v1 v2 [] []) => add_ref w B l v1 v2 [] [] x n hr List.Pairwise.nil (by simp) hE
  have hrn := fun (w : World) (B l : Nat) (v1 v2 : Value) (hr : Ring2 w B l v1 v2 [] []) => rem_no w B l v1 v2 [] [] x hr List.Pairwise.nil (by simp) (by simp)
  have Hrn := Lib.hid hrn
  clear hrn
  have hcase : (addE x n [] = 8 ∧ ((decide (((str x).size : Int) < 1) = true) ∨ (decide (((str x).size : Int) < 1) = false ∧ decide (64 < ((str x).size : Int)) = true))) ∨ (addE x n [] = 1 ∧ decide (((str x).size : Int) < 1) = false ∧ decide (64 < ((str x).size : Int)) = false ∧ ((decide (n < 1) = true) ∨ (decide (n < 1) = false ∧ decide (16 < n) = true))) := by
    unfold addE at hE ⊢
    by_cases h1 : x.length < 1 ∨ 64 < x.length
    · refine Or.inl ⟨if_pos h1, ?_⟩
      rcases h1 with h | h
      · exact Or.inl (decide_eq_true (by omega))
      · exact Or.inr ⟨decide_eq_false (by omega), decide_eq_true (by omega)⟩
    · rw [if_neg h1] at hE ⊢
      by_cases h2 : n < 1 ∨ 16 < n
      · refine Or.inr ⟨if_pos h2, decide_eq_false (by omega), decide_eq_false (by omega), ?_⟩
        rcases h2 with h | h
        · exact Or.inl (decide_eq_true h)
        · exact Or.inr ⟨decide_eq_false (by omega), decide_eq_true h⟩
      · rw [if_neg h2] at hE
        simp at hE
  have Hno := Lib.hid hno
  clear hno hE hsx hkz
  have hnil : Hid (∀ w : World, Calls Try.prog 14 #[.pointer none, .string (str key)] w fun e w' => e = .returned (.tuple #[.string (str []), errV 3]) ∧ Below w.heap.size w w') := fun w => owner_no w (str key)
  have his : Hid (∀ w : World, Calls Try.prog 19 #[errV 3, .int .i64 3] w fun e w' => e = .returned (.bool true) ∧ w' = w) := fun w => by simpa using is_any 3 3 w
  generalize addE x n [] = E at *
  rcases hcase with ⟨rfl, h | ⟨h, h'⟩⟩ | ⟨rfl, h0, h0', h | ⟨h, h'⟩⟩
  all_goals
    have hnw := fun w => new_any w w.heap.size (Nat.le_refl _)
    have Hnw := Lib.hid hnw
    clear hnw
    go_enter Try.func9, Try.ntmps9
    go_wp2_with fail
    refine (hAw.out _).mono ?_
    rintro e w1 ⟨rfl, hb1⟩
    have hB1 := Lib.hid hb1
    clear hb1
    go_wp2_with fail
    refine (Hnw.out _).mono ?_
    rintro e w2 ⟨rfl, hr2, hb2⟩
    have hB2 := Lib.hid (Below.next hB1.out hB1.out.size hb2)
    have Hr2 := Lib.hid hr2
    clear hb2 hr2
    generalize w1.heap.size = loc at *
    go_wp2_with fail
    refine (Hno.out _ _ _ _ _ Hr2.out).mono ?_
    rintro e w3 ⟨rfl, hb3⟩
    have hB3 := Lib.hid (Below.next hB2.out hB2.out.size hb3)
    have Hr3 := Lib.hid (Hr2.out.below hb3)
    clear hb3
    go_wp2_with fail
    refine (num_any _ _).mono ?_
    rintro e w4 ⟨rfl, rfl⟩
    go_wp2_with fail
    refine (hnil.out _).mono ?_
    rintro e w5 ⟨rfl, hb5⟩
    replace hB3 := Lib.hid (Below.next hB3.out hB3.out.size hb5)
    replace Hr3 := Lib.hid (Hr3.out.below hb5)
    clear hb5
    go_wp2_with fail
    refine (assign_nil _ _ _ _).mono ?_
    rintro e w5 ⟨rfl, hb5⟩
    replace hB3 := Lib.hid (Below.next hB3.out hB3.out.size hb5)
    replace Hr3 := Lib.hid (Hr3.out.below hb5)
    clear hb5
    go_wp2_with fail
    refine (Hnw.out _).mono ?_
    rintro e w5 ⟨rfl, hr5, hb5⟩
    have Hr5 := Lib.hid hr5
    clear hr5
    replace hB3 := Lib.hid (Below.next hB3.out hB3.out.size hb5)
    replace Hr3 := Lib.hid (Hr3.out.below hb5)
    clear hb5
    go_wp2_with fail
    refine (assign_empty _ _ _ _ _ _ _ _ _ Hr5.out).mono ?_
    rintro e w5 ⟨rfl, hb5⟩
    replace hB3 := Lib.hid (Below.next hB3.out hB3.out.size hb5)
    replace Hr3 := Lib.hid (Hr3.out.below hb5)
    clear hb5
    clear Hr5
    go_wp2_with fail
    refine (add_nil _ _ _).mono ?_
    rintro e w5 ⟨rfl, hb5⟩
    replace hB3 := Lib.hid (Below.next hB3.out hB3.out.size hb5)
    replace Hr3 := Lib.hid (Hr3.out.below hb5)
    clear hb5
    go_wp2_with fail
    refine (his.out _).mono ?_
    rintro e w5 ⟨rfl, rfl⟩
    go_wp2_with fail
    refine (rem_nil _ _).mono ?_
    rintro e w5 ⟨rfl, hb5⟩
    replace hB3 := Lib.hid (Below.next hB3.out hB3.out.size hb5)
    replace Hr3 := Lib.hid (Hr3.out.below hb5)
    clear hb5
    go_wp2_with fail
    refine (nodes_no _).mono ?_
    rintro e w5 ⟨rfl, rfl⟩
    go_wp2_with fail
    refine (owners_no _ (.pointer none) _ 3 (Or.inl rfl)).mono ?_
    rintro e w5 ⟨rfl, hb5⟩
    replace hB3 := Lib.hid (Below.next hB3.out hB3.out.size hb5)
    replace Hr3 := Lib.hid (Hr3.out.below hb5)
    clear hb5
    go_wp2_with fail
    refine (his.out _).mono ?_
    rintro e w5 ⟨rfl, rfl⟩
    go_wp2_with fail
    refine (his.out _).mono ?_
    rintro e w5 ⟨rfl, rfl⟩
    go_wp2_with fail
    refine (his.out _).mono ?_
    rintro e w5 ⟨rfl, rfl⟩
    go_wp2_with fail
    refine (Hrn.out _ _ _ _ _ Hr3.out).mono ?_
    rintro e w5 ⟨rfl, hb5⟩
    replace hB3 := Lib.hid (Below.next hB3.out hB3.out.size hb5)
    clear hb5
    go_wp2_with fail
    go_ret
    exact ⟨rfl, hB3.out⟩
end Go.Proofs.Ytjjbeahdoblacaa
