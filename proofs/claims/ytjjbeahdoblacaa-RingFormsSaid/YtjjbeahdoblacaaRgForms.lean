/-
  The walk of RingForms: every input.
-/
import Derived.Test.YtjjbeahdoblacaaRgFormsW
import Derived.Test.YtjjbeahdoblacaaRgFormsO
namespace Go.Proofs.Ytjjbeahdoblacaa
open Go.Shelf Go.RowKit Go.Lib Go.Sort Rg
set_option maxRecDepth 100000 in
set_option maxHeartbeats 16000000 in
theorem forms_walk (w : World) (x key : Nm) (n : Int) (hkm : key.length ≤ maxLen) :
    Calls Try.prog 9 #[.string (str x), .int .i64 n, .string (str key)] w fun e w' => e = .returned (.bool true) ∧ Below w.heap.size w w' := by
  obtain ⟨s, hs⟩ : ∃ s, IntKind.i64.wrap (((str x).size : Int) + ((str key).size : Int)) = s := ⟨_, rfl⟩
  cases hd : decide (1000 < s) with
  | false =>
    by_cases hE : addE x n [] = 0
    · have h1 : ¬ (x.length < 1 ∨ 64 < x.length) := fun h => by unfold addE at hE; rw [if_pos h] at hE; cases hE
      have h2 : ¬ (n < 1 ∨ 16 < n) := fun h => by unfold addE at hE; rw [if_neg h1, if_pos h] at hE; cases hE
      have := forms_ok w x key n.toNat s hs hd hkm (by omega) (by omega) (by omega) (by omega)
      rwa [show ((n.toNat : Nat) : Int) = n by omega] at this
    · exact forms_bad w x key n s hs hd hE
  | true =>
    have hAw := Lib.hid (fun w => awake_any w)
    clear hkm
    go_enter Try.func9, Try.ntmps9
    go_wp2_with fail
    refine (hAw.out _).mono ?_
    rintro e w1 ⟨rfl, hb1⟩
    have hB1 := Lib.hid hb1
    clear hb1
    go_wp2_with fail
    refine (hAw.out _).mono ?_
    rintro e w2 ⟨rfl, hb2⟩
    have hB2 := Lib.hid hb2
    clear hb2
    go_wp2_with fail
    go_ret
    exact ⟨rfl, Below.next hB1.out hB1.out.size hB2.out⟩
end Go.Proofs.Ytjjbeahdoblacaa
