/-
  Decimal digits. Plain Lean.
-/
import Derived.Test.YtjcgognngeagiaaDoorNum
namespace Go.Proofs.YtjcgognngeagiaaDoor
open Go.RowKit Syn

theorem valGo_shift : ∀ (l : List UInt8) (n : Nat), valGo n l = n * 10 ^ l.length + valGo 0 l
  | [], n => by show n = n * 1 + 0; omega
  | c :: l, n => by
    show valGo (10 * n + (c.toNat - 48)) l = n * 10 ^ (l.length + 1) + valGo (10 * 0 + (c.toNat - 48)) l
    rw [valGo_shift l (10 * n + (c.toNat - 48)), valGo_shift l (10 * 0 + (c.toNat - 48)), Nat.pow_succ]
    generalize 10 ^ l.length = p
    generalize valGo 0 l = v
    generalize c.toNat - 48 = d
    rw [Nat.add_mul, Nat.add_mul, Nat.mul_zero, Nat.zero_mul]
    have : 10 * n * p = n * (p * 10) := by rw [Nat.mul_comm p 10, ← Nat.mul_assoc, Nat.mul_comm n 10]
    omega
theorem val_cons (c : UInt8) (l : List UInt8) : valGo 0 (c :: l) = (c.toNat - 48) * 10 ^ l.length + valGo 0 l := by
  show valGo (10 * 0 + (c.toNat - 48)) l = _
  rw [valGo_shift]; simp
/-- The digits that are written so far (l) and what is left (r) of n. -/
structure Dec (n r : Nat) (l : List UInt8) : Prop where
  val : n = r * 10 ^ l.length + valGo 0 l
  dig : l.all dig = true
  len : l.length ≤ 1 ∨ 10 ^ (l.length - 1) ≤ n
  small : n < 1000000000000000
theorem Dec.start {n : Nat} (h : n < 1000000000000000) : Dec n n [] where
  val := by show n = n * 1 + 0; rw [Nat.mul_one, Nat.add_zero]
  dig := rfl
  len := .inl (Nat.zero_le _)
  small := h
theorem dig_of {c : UInt8} {d : Nat} (h : d < 10) (hc : c.toNat = 48 + d) : Syn.dig c = true := by
  unfold Syn.dig; rw [hc]; simp; omega
theorem Dec.step {n r : Nat} {l : List UInt8} {c : UInt8} (h : Dec n r l) (hr : 0 < r ∨ l = []) (hc : c.toNat = 48 + r % 10) : Dec n (r / 10) (c :: l) := by
  refine ⟨?_, ?_, ?_, h.small⟩
  · rw [val_cons, hc, List.length_cons, Nat.pow_succ]
    have := h.val
    rw [this]
    have e : 48 + r % 10 - 48 = r % 10 := by omega
    rw [e]
    generalize 10 ^ l.length = p
    generalize valGo 0 l = v
    have : r = 10 * (r / 10) + r % 10 := by omega
    conv => lhs; rw [this]
    rw [Nat.add_mul]
    have : 10 * (r / 10) * p = r / 10 * (p * 10) := by rw [Nat.mul_comm p 10, ← Nat.mul_assoc, Nat.mul_comm 10 (r / 10)]
    omega
  · rw [List.all_cons, dig_of (Nat.mod_lt _ (by decide)) hc, h.dig]; rfl
  · rcases hr with hr | hr
    · right
      rw [List.length_cons, Nat.add_sub_cancel, h.val]
      have : 1 * 10 ^ l.length ≤ r * 10 ^ l.length := Nat.mul_le_mul_right _ hr
      omega
    · left; rw [hr]; simp
theorem Dec.length {n r : Nat} {l : List UInt8} (h : Dec n r l) : l.length ≤ 15 := by
  rcases h.len with h1 | h1
  · omega
  · rcases Nat.lt_or_ge 15 l.length with h2 | h2
    · have : 10 ^ 15 ≤ 10 ^ (l.length - 1) := Nat.pow_le_pow_right (by decide) (by omega)
      have h3 : (10 : Nat) ^ 15 = 1000000000000000 := by decide
      have := h.small
      generalize 10 ^ (l.length - 1) = x at *
      omega
    · exact h2
/-- All digits are written. -/
theorem Dec.done {n : Nat} {l : List UInt8} (h : Dec n 0 l) : valGo 0 l = n := by have := h.val; simp at this; exact this.symm
theorem val_zero (l : List UInt8) : valGo 0 (48 :: l) = valGo 0 l := by rw [val_cons]; simp
theorem number_of {l : List UInt8} {n : Nat} (hd : l.all Syn.dig = true) (hne : l ≠ []) (hv : valGo 0 l = n) : number l = if 15 < l.length then (0, 5) else (n, 0) := by
  unfold number
  have : digits l = true := by unfold digits; rw [hd]; cases l with | nil => exact absurd rfl hne | cons => rfl
  rw [this, hv]; rfl
end Go.Proofs.YtjcgognngeagiaaDoor
