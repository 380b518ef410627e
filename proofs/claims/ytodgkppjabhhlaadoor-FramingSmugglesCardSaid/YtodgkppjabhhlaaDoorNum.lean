/-
  Layer 1: Number.
-/
import Derived.Test.YtodgkppjabhhlaaDoorTok
import Derived.Test.YtodgkppjabhhlaaDoorBasic
namespace Go.Proofs.YtodgkppjabhhlaaDoor
open Go.RowKit Syn

/-- What Number answers: the number and the error's number. -/
def number (l : List UInt8) : Nat × Int := if digits l then (if 15 < l.length then (0, 5) else (valGo 0 l, 0)) else (0, 2)
theorem valGo_append (n : Nat) (a b : List UInt8) : valGo n (a ++ b) = valGo (valGo n a) b := by
  induction a generalizing n with
  | nil => rfl
  | cons c a ih => exact ih _
theorem val_step (n a p : Nat) (h : a ≤ 9) : (10 * n + a + 1) * p ≤ (n + 1) * (p * 10) := by
  have : (n + 1) * (p * 10) = ((n + 1) * 10) * p := by rw [Nat.mul_comm p 10, Nat.mul_assoc]
  rw [this]
  exact Nat.mul_le_mul_right p (by omega)
theorem dig_le {c : UInt8} (h : dig c = true) : c.toNat - 48 ≤ 9 := by
  unfold dig at h
  rw [Bool.and_eq_true, decide_eq_true_eq, decide_eq_true_eq] at h
  omega
theorem valGo_lt : ∀ (l : List UInt8) (n : Nat), l.all dig = true → valGo n l + 1 ≤ (n + 1) * 10 ^ l.length
  | [], n, _ => by show n + 1 ≤ (n + 1) * 1; omega
  | c :: l, n, h => by
    rw [List.all_cons, Bool.and_eq_true] at h
    have h1 := valGo_lt l (10 * n + (c.toNat - 48)) h.2
    have h2 := val_step n (c.toNat - 48) (10 ^ l.length) (dig_le h.1)
    rw [List.length_cons, Nat.pow_succ]
    exact Nat.le_trans h1 h2
theorem val_lt (l : List UInt8) (h : l.all dig = true) (hl : l.length ≤ 15) : valGo 0 l < 1000000000000000 := by
  have := valGo_lt l 0 h
  have h2 : 10 ^ l.length ≤ 1000000000000000 := Nat.le_trans (Nat.pow_le_pow_right (by decide) hl) (by decide)
  generalize 10 ^ l.length = x at this h2
  omega
theorem val_take (s : ByteArray) (k : Nat) (h : k < s.size) : valGo 0 ((bs s).take (k + 1)) = 10 * valGo 0 ((bs s).take k) + (s[k].toNat - 48) := by
  rw [take_at s k h, valGo_append]; rfl
theorem dig_at {l : List UInt8} {s : ByteArray} {k : Nat} (hl : l = bs s) (h : l.all dig = true) (hk : k < s.size) : 48 ≤ s[k].toNat ∧ s[k].toNat ≤ 57 := by
  subst hl
  have := (List.all_eq_true.1 h) s[k] (List.mem_of_getElem? (byte_at s k hk))
  unfold dig at this; simpa using this
theorem all_take {p : UInt8 → Bool} {l : List UInt8} (h : l.all p = true) (k : Nat) : (l.take k).all p = true := by
  rw [List.all_eq_true] at h ⊢; exact fun x hx => h x (List.mem_of_mem_take hx)
set_option maxHeartbeats 1000000 in
theorem number_any (s : ByteArray) (w : World) (hs : s.size ≤ maxLen) :
    Calls Tryd.prog 47 #[.string s] w fun e w' => e = .returned (.tuple #[.int .i64 ((number (bs s)).1 : Int), errV (number (bs s)).2]) ∧ w' = w := by
  unfold maxLen at hs
  go_enter Tryd.func47, Tryd.ntmps47
  go_wp2
  go_loop [5, 9] (fun _ i => ∃ k : Nat, i = .int .i64 k ∧ k ≤ s.size ∧ Hid (((bs s).take k).all dig = true)) (fun _ i => s.size - (intOf i).toNat)
  case atStart => exact ⟨0, rfl, by omega, rfl⟩
  case round =>
    obtain ⟨k, rfl, hk, ha⟩ := hrel
    by_cases hlt : k < s.size
    · have no : dig s[k] = false → Hid (number (bs s) = (0, 2)) := fun h => by
        have : digits (bs s) = false := by unfold digits; rw [all_fail hlt h]; rfl
        exact Lib.hid (by unfold number; rw [this]; rfl)
      by_cases h1 : s[k].toNat < 48
      · have e := no (by unfold dig; simp; omega)
        clear no
        go_wp2
        go_ret2
        exact ⟨by rw [e.out]; rfl, rfl⟩
      · by_cases h2 : 57 < s[k].toNat
        · have e := no (by unfold dig; simp; omega)
          clear no
          have h1 : 48 ≤ s[k].toNat := by omega
          go_wp2
          go_ret2
          exact ⟨by rw [e.out]; rfl, rfl⟩
        · have hf := Lib.hid (all_step hlt ha.out (by unfold dig; simp; omega))
          clear no
          have h1 : 48 ≤ s[k].toNat := by omega
          have h2 : s[k].toNat ≤ 57 := by omega
          go_wp2
          go_round
          case rel => exact ⟨k + 1, by go_num, by omega, hf⟩
          case measure => simp [intOf]; omega
    · obtain rfl : k = s.size := by omega
      have hd := all_done ha.out
      by_cases h0 : s.size = 0
      · have he : s.toList.isEmpty = true := by rw [toList_isEmpty]; simp [h0]
        have e : Hid (number (bs s) = (0, 2)) := Lib.hid (by unfold number digits; rw [isEmpty_bs]; simp [h0])
        go_wp2
        go_ret2
        exact ⟨by rw [e.out]; rfl, rfl⟩
      · have he : s.toList.isEmpty = false := by rw [toList_isEmpty]; simp [h0]
        have hdg : digits (bs s) = true := by unfold digits; rw [hd, isEmpty_bs]; simp [h0]
        by_cases h15 : 15 < s.size
        · have e : Hid (number (bs s) = (0, 5)) := Lib.hid (by unfold number; rw [hdg, bs_length]; simp [h15])
          go_wp2
          go_ret2
          exact ⟨by rw [e.out]; rfl, rfl⟩
        · have e : Hid (number (bs s) = (valGo 0 (bs s), 0)) := Lib.hid (by unfold number; rw [hdg, bs_length]; simp [h15])
          have hD := Lib.hid hd
          clear hd hdg ha
          go_wp2
          go_loop [4, 6, 33] (fun n _ i => ∃ k : Nat, n = .int .i64 (valGo 0 ((bs s).take k) : Nat) ∧ i = .int .i64 k ∧ k ≤ s.size) (fun _ _ i => s.size - (intOf i).toNat)
          case atStart => exact ⟨0, rfl, rfl, by omega⟩
          case round =>
            obtain ⟨k, rfl, rfl, hk⟩ := hrel
            by_cases hlt : k < s.size
            · obtain ⟨h1, h2⟩ := dig_at rfl hD.out hlt
              have hv := val_lt _ (all_take hD.out k) (by rw [List.length_take]; omega)
              have hn := Lib.hid (val_take s k hlt)
              generalize valGo 0 ((bs s).take k) = n at hv hn ⊢
              go_wp2
              go_round
              case rel => exact ⟨k + 1, by rw [hn.out]; go_num, by go_num, by omega⟩
              case measure => simp [intOf]; omega
            · obtain rfl : k = s.size := by omega
              rw [take_all]
              go_wp2
              go_ret2
              exact ⟨by rw [e.out]; rfl, rfl⟩
end Go.Proofs.YtodgkppjabhhlaaDoor
