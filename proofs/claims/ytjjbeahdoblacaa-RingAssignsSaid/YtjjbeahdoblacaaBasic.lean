/-
  quaysidebase: Num, Is, Texts.
-/
import Derived.Test.YtjjbeahdoblacaaBase
import Derived.Deep.QuietTactic
import Derived.BigQuiet
namespace Go.Proofs.Ytjjbeahdoblacaa
open Go.RowKit

/-- The error value of a number: none for 0. -/
def errV (n : Int) : Value := if n = 0 then .nilIface else .iface 43 (.int .i64 n)
theorem errV_zero : errV 0 = .nilIface := rfl
theorem errV_form : errV 2 = .iface 43 (.int .i64 2) := rfl
theorem num_nil (w : World) :
    Calls Try.prog 22 #[.nilIface] w fun e w' => e = .returned (.int .i64 0) ∧ w' = w := by
  go_enter Try.func22, Try.ntmps22
  go_wp2
  go_ret
  exact ⟨rfl, rfl⟩
theorem run_errno (n : Int) (w : World) : (Instr.typeAssert (.iface 43 (.int .i64 n)) 33 43 true).run Try.prog w = .ok (.tuple #[.int .i64 n, .bool true]) w := by kernel_rfl
set_option maxHeartbeats 400000 in
theorem num_errno (n : Int) (w : World) :
    Calls Try.prog 22 #[.iface 43 (.int .i64 n)] w fun e w' => e = .returned (.int .i64 n) ∧ w' = w := by
  have hr := run_errno
  go_enter Try.func22, Try.ntmps22
  go_wp2
  go_ret
  exact ⟨rfl, rfl⟩
theorem num_any (n : Int) (w : World) :
    Calls Try.prog 22 #[errV n] w fun e w' => e = .returned (.int .i64 n) ∧ w' = w := by
  unfold errV
  split
  · next h => subst h; exact num_nil w
  · exact num_errno n w
set_option maxHeartbeats 400000 in
theorem is_any (n m : Int) (w : World) :
    Calls Try.prog 19 #[errV n, .int .i64 m] w fun e w' => e = .returned (.bool (decide (n = m) && decide (m ≠ 0))) ∧ w' = w := by
  have hn := fun w => num_any n w
  generalize errV n = v at hn ⊢
  rcases Decidable.em (n = m) with rfl | h
  · by_cases h0 : n = 0
    · subst h0
      go_enter Try.func19, Try.ntmps19
      go_wp2_with (go_at_call 22; refine (hn _).mono ?_; rintro e w' ⟨rfl, rfl⟩)
      go_ret
      exact ⟨rfl, rfl⟩
    · have e : (decide (n = n) && decide (n ≠ 0)) = true := by simp [h0]
      have h1 : (n == 0) = false := by simp [h0]
      rw [e]
      go_enter Try.func19, Try.ntmps19
      go_wp2_with (go_at_call 22; refine (hn _).mono ?_; rintro e w' ⟨rfl, rfl⟩)
      go_ret
      exact ⟨by simp [h0], rfl⟩
  · have e : (decide (n = m) && decide (m ≠ 0)) = false := by simp [h]
    have h1 : (n == m) = false := by simp [h]
    rw [e]
    go_enter Try.func19, Try.ntmps19
    go_wp2_with (go_at_call 22; refine (hn _).mono ?_; rintro e w' ⟨rfl, rfl⟩)
    go_ret
    exact ⟨rfl, rfl⟩

/-- The cells of texts. -/
def strs (l : List (List UInt8)) : List Value := l.map fun x => .string (str x)
theorem strs_length (l : List (List UInt8)) : (strs l).length = l.length := by simp [strs]
theorem strs_at {l : List (List UInt8)} {k : Nat} (h : k < l.length) : (strs l)[k]? = some (.string (str l[k])) := by simp [strs, h]
theorem str_toList (a : List UInt8) : (str a).toList = a := by rw [ByteArray.toList_eq]; rfl
theorem str_ne {a b : List UInt8} (h : a ≠ b) : ((str a).toList == (str b).toList) = false := by
  rw [str_toList, str_toList, beq_eq_false_iff_ne]; exact h
theorem str_eq {a b : List UInt8} (h : a = b) : ((str a).toList == (str b).toList) = true := by
  rw [h]; exact beq_self_eq_true _
theorem str_inj {a b : List UInt8} (h : str a = str b) : a = b := by
  have := congrArg bs h; simpa [bs_str] using this
theorem Rd.drewN {w : World} {sz n : Nat} {v : Value} {xs : List Value} (h : Rd w sz v n xs) (m : Nat) : Rd (w.drewN m) sz v n xs := h
theorem take_step {α : Type} {a b : List α} {k : Nat} (h : a.take k = b.take k) (ha : k < a.length) (hb : k < b.length) (he : a[k] = b[k]) : a.take (k + 1) = b.take (k + 1) := by
  rw [List.take_succ_eq_append_getElem ha, List.take_succ_eq_append_getElem hb, h, he]
theorem ne_of_at {α : Type} [DecidableEq α] {a b : List α} {k : Nat} (ha : k < a.length) (hb : k < b.length) (he : a[k] ≠ b[k]) : decide (a = b) = false := by
  simp only [decide_eq_false_iff_not]; rintro rfl; exact he rfl
set_option maxHeartbeats 1000000 in
theorem texts_any {v1 v2 : Value} {l1 l2 : List (List UInt8)} (w : World) (h1 : Rd w 1 v1 l1.length (strs l1)) (h2 : Rd w 1 v2 l2.length (strs l2)) (hm : l1.length ≤ maxLen) :
    Calls Try.prog 15 #[v1, v2] w fun e w' => e = .returned (.bool (decide (l1 = l2))) ∧ ∃ n, w' = w.drewN n := by
  unfold maxLen at hm
  obtain ⟨A1, c1, rfl, hc1, -, r1⟩ := h1
  obtain ⟨A2, c2, rfl, hc2, -, r2⟩ := h2
  by_cases hl : l1.length = l2.length
  · have hbeq := beq_self_eq_true ((l1.length : Int))
    rw [← hl] at r2 hc2 ⊢
    go_enter Try.func15, Try.ntmps15
    go_wp2
    go_loopw [5, 13] (fun _ i wr => ∃ k m : Nat, i = .int .i64 k ∧ k ≤ l1.length ∧ Hid (l1.take k = l2.take k) ∧ wr = w.drewN m) (fun _ i _ => l1.length - (intOf i).toNat)
    case atStart => exact ⟨0, 0, rfl, by omega, rfl, rfl⟩
    case round =>
      rename_i _ v
      obtain ⟨k, m, rfl, hk, ht, hw⟩ := hrel
      by_cases hlt : k < l1.length
      · obtain ⟨b1, o1, rfl, _, x1⟩ := r1 (by omega)
        obtain ⟨b2, o2, rfl, _, x2⟩ := r2 (by omega)
        have hlt2 : k < l2.length := by omega
        have d1 : wr.cell? ⟨b1, o1 + k, none⟩ = some (.string (str l1[k])) := by rw [hw]; exact x1 k _ (strs_at hlt)
        have d2 : wr.cell? ⟨b2, o2 + k, none⟩ = some (.string (str l2[k])) := by rw [hw]; exact x2 k _ (strs_at hlt2)
        have Hw := Lib.hid hw
        clear hw
        by_cases he : l1[k] = l2[k]
        · have hn := Lib.hid (take_step ht.out hlt hlt2 he)
          rw [← he] at d2
          go_wp2_with fail
          go_quiet (fail)
          go_wp2
          go_roundw
          case rel => exact ⟨k + 1, m + nq, by go_num, by omega, hn, by rw [Hw.out, World.drewN_drewN]⟩
          case measure => simp [intOf]; omega
        · have hn := Lib.hid (ne_of_at hlt hlt2 he)
          have hne := str_ne he
          go_wp2_with fail
          go_quiet (fail)
          go_wp2
          go_ret
          exact ⟨congrArg (fun b => Ending.returned (.bool b)) hn.out.symm, _, by rw [Hw.out, World.drewN_drewN]⟩
      · have he : Hid (decide (l1 = l2) = true) := by
          have := ht.out
          rw [List.take_of_length_le (by omega), List.take_of_length_le (by omega)] at this
          exact decide_eq_true this
        go_wp2
        go_ret
        exact ⟨congrArg (fun b => Ending.returned (.bool b)) he.out.symm, m, rfl⟩
  · have he : decide (l1 = l2) = false := by simp only [decide_eq_false_iff_not]; rintro rfl; exact hl rfl
    have hb : ((l1.length : Int) == (l2.length : Int)) = false := by simp; omega
    rw [he]
    go_enter Try.func15, Try.ntmps15
    go_wp2
    go_ret
    exact ⟨rfl, 0, rfl⟩
end Go.Proofs.Ytjjbeahdoblacaa
