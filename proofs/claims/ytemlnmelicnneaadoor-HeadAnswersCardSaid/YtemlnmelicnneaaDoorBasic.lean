/-
  quaysidebase: Num, Is, Texts.
-/
import Derived.Test.YtemlnmelicnneaaDoorBase
import Derived.Deep.QuietTactic
import Derived.BigQuiet
namespace Go.Proofs.YtemlnmelicnneaaDoor
open Go.RowKit

/-- The error value of a number: none for 0. -/
def errV (n : Int) : Value := if n = 0 then .nilIface else .iface 59 (.int .i64 n)
theorem errV_zero : errV 0 = .nilIface := rfl
theorem errV_form : errV 2 = .iface 59 (.int .i64 2) := rfl
theorem num_nil (w : World) :
    Calls Tryd.prog 14 #[.nilIface] w fun e w' => e = .returned (.int .i64 0) ∧ w' = w := by
  go_enter Tryd.func14, Tryd.ntmps14
  go_wp2
  go_ret
  exact ⟨rfl, rfl⟩
theorem run_errno (n : Int) (w : World) : (Instr.typeAssert (.iface 59 (.int .i64 n)) 29 59 true).run Tryd.prog w = .ok (.tuple #[.int .i64 n, .bool true]) w := by kernel_rfl
set_option maxHeartbeats 400000 in
theorem num_errno (n : Int) (w : World) :
    Calls Tryd.prog 14 #[.iface 59 (.int .i64 n)] w fun e w' => e = .returned (.int .i64 n) ∧ w' = w := by
  have hr := run_errno
  go_enter Tryd.func14, Tryd.ntmps14
  go_wp2
  go_ret
  exact ⟨rfl, rfl⟩
theorem num_any (n : Int) (w : World) :
    Calls Tryd.prog 14 #[errV n] w fun e w' => e = .returned (.int .i64 n) ∧ w' = w := by
  unfold errV
  split
  · next h => subst h; exact num_nil w
  · exact num_errno n w
set_option maxHeartbeats 400000 in
theorem is_any (n m : Int) (w : World) :
    Calls Tryd.prog 24 #[errV n, .int .i64 m] w fun e w' => e = .returned (.bool (decide (n = m) && decide (m ≠ 0))) ∧ w' = w := by
  have hn := fun w => num_any n w
  generalize errV n = v at hn ⊢
  rcases Decidable.em (n = m) with rfl | h
  · by_cases h0 : n = 0
    · subst h0
      go_enter Tryd.func24, Tryd.ntmps24
      go_wp2_with (go_at_call 14; refine (hn _).mono ?_; rintro e w' ⟨rfl, rfl⟩)
      go_ret
      exact ⟨rfl, rfl⟩
    · have e : (decide (n = n) && decide (n ≠ 0)) = true := by simp [h0]
      have h1 : (n == 0) = false := by simp [h0]
      rw [e]
      go_enter Tryd.func24, Tryd.ntmps24
      go_wp2_with (go_at_call 14; refine (hn _).mono ?_; rintro e w' ⟨rfl, rfl⟩)
      go_ret
      exact ⟨by simp [h0], rfl⟩
  · have e : (decide (n = m) && decide (m ≠ 0)) = false := by simp [h]
    have h1 : (n == m) = false := by simp [h]
    rw [e]
    go_enter Tryd.func24, Tryd.ntmps24
    go_wp2_with (go_at_call 14; refine (hn _).mono ?_; rintro e w' ⟨rfl, rfl⟩)
    go_ret
    exact ⟨rfl, rfl⟩

/-- The cells of texts. -/
def strs (l : List (List UInt8)) : List Value := l.map fun x => .string (str x)
theorem strs_length (l : List (List UInt8)) : (strs l).length = l.length := by simp [strs]
theorem strs_at {l : List (List UInt8)} {k : Nat} (h : k < l.length) : (strs l)[k]? = some (.string (str l[k])) := by simp [strs, h]
theorem str_toList (a : List UInt8) : (str a).toList = a := by rw [ByteArray.toList_eq]; rfl
theorem str_ne {a b : List UInt8} (h : a ≠ b) : ((str a).toList == (str b).toList) = false := by
  rw [str_toList, str_toList, beq_eq_false_iff_ne]; exact h
theorem str_eq {a b : List UInt8} (h : a = b) : ((str a).toList == (str b).toList) = true := by
  rw [h]; exact beq_self_eq_true _
theorem str_inj {a b : List UInt8} (h : str a = str b) : a = b := by
  have := congrArg bs h; simpa [bs_str] using this
theorem Rd.drewN {w : World} {sz n : Nat} {v : Value} {xs : List Value} (h : Rd w sz v n xs) (m : Nat) : Rd (w.drewN m) sz v n xs := h
theorem take_step {α : Type} {a b : List α} {k : Nat} (h : a.take k = b.take k) (ha : k < a.length) (hb : k < b.length) (he : a[k] = b[k]) : a.take (k + 1) = b.take (k + 1) := by
  rw [List.take_succ_eq_append_getElem ha, List.take_succ_eq_append_getElem hb, h, he]
theorem ne_of_at {α : Type} [DecidableEq α] {a b : List α} {k : Nat} (ha : k < a.length) (hb : k < b.length) (he : a[k] ≠ b[k]) : decide (a = b) = false := by
  simp only [decide_eq_false_iff_not]; rintro rfl; exact he rfl
end Go.Proofs.YtemlnmelicnneaaDoor
