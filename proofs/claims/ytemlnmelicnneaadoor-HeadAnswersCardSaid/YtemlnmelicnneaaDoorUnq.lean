/-
  Layer 1: Unquote, the code's and the document's.
-/
import Derived.Test.YtemlnmelicnneaaDoorRQuote
namespace Go.Proofs.YtemlnmelicnneaaDoor
open Go.RowKit Syn

def unqV (o : Option (List UInt8)) : Value := .tuple #[.string (str (o.getD [])), errV (if o.isSome then 0 else 2)]
def unqR (o : Option (List UInt8)) : Value := .tuple #[.string (str (o.getD [])), .bool o.isSome]
section
variable {s : ByteArray} {k : Nat} {acc : List UInt8}
theorem unqGo_cons (c : UInt8) (r : List UInt8) : unqGo acc (c :: r) = if c = 34 then (if r.isEmpty then some acc else none) else if c = 92 then (match r with | [] => none | d :: r' => unqGo (acc ++ [d]) r') else unqGo (acc ++ [c]) r := by
  rw [unqGo.eq_def]; rfl
theorem unq_end (h : s.size ≤ k) : unqGo acc ((bs s).drop k) = none := by
  rw [List.drop_of_length_le (by rw [bs_length]; exact h)]; rfl
theorem drop_empty (h : k ≤ s.size) : ((bs s).drop k).isEmpty = decide (k = s.size) := by
  have : ((bs s).drop k).length = s.size - k := by rw [List.length_drop, bs_length]
  by_cases hk : k = s.size
  · rw [List.eq_nil_of_length_eq_zero (l := (bs s).drop k) (by omega)]; simp [hk]
  · cases hd : (bs s).drop k with
    | nil => rw [hd] at this; simp at this; omega
    | cons => simp [hk]
theorem unq_q (h : k < s.size) (hc : s[k].toNat = 34) : unqGo acc ((bs s).drop k) = if k + 1 = s.size then some acc else none := by
  have h34 : s[k] = 34 := u8_iff.2 hc
  rw [drop_at s k h, unqGo_cons, if_pos h34, drop_empty (by omega)]
  by_cases hk : k + 1 = s.size <;> simp [hk]
theorem unq_b (h : k < s.size) (hc : s[k].toNat = 92) (h2 : k + 1 = s.size) : unqGo acc ((bs s).drop k) = none := by
  have h92 : s[k] = 92 := u8_iff.2 hc
  have h34 : s[k] ≠ 34 := by rw [h92]; decide
  rw [drop_at s k h, unqGo_cons, if_neg h34, if_pos h92, List.drop_of_length_le (by rw [bs_length]; omega)]
theorem unq_b2 (h : k < s.size) (hc : s[k].toNat = 92) (h2 : k + 1 < s.size) : unqGo acc ((bs s).drop k) = unqGo (acc ++ [s[k + 1]]) ((bs s).drop (k + 1 + 1)) := by
  have h92 : s[k] = 92 := u8_iff.2 hc
  have h34 : s[k] ≠ 34 := by rw [h92]; decide
  rw [drop_at s k h, unqGo_cons, if_neg h34, if_pos h92, drop_at s (k + 1) h2]
theorem unq_o (h : k < s.size) (h1 : s[k].toNat ≠ 34) (h2 : s[k].toNat ≠ 92) : unqGo acc ((bs s).drop k) = unqGo (acc ++ [s[k]]) ((bs s).drop (k + 1)) := by
  rw [drop_at s k h, unqGo_cons, if_neg (fun h => h1 (u8_iff.1 h)), if_neg (fun h => h2 (u8_iff.1 h))]
theorem unq_no (h : cln (bs s) = false ∨ s.size < 2) : unq (bs s) = none := by
  unfold unq
  rcases h with h | h
  · rw [h]; rfl
  · have : decide (2 ≤ (bs s).length) = false := by rw [bs_length]; simp; omega
    rw [this]; simp
theorem head_bs (h : 0 < s.size) : (bs s).head? = some s[0] := by
  rw [List.head?_eq_getElem?, byte_at s 0 h]
theorem unq_no0 (h : 0 < s.size) (h0 : s[0].toNat ≠ 34) : unq (bs s) = none := by
  unfold unq
  rw [head_bs h]
  have : decide (some s[0] = some (34 : UInt8)) = false := by
    simp only [decide_eq_false_iff_not, Option.some.injEq]; exact fun h => h0 (u8_iff.1 h)
  rw [this]; simp
theorem unq_yes (h : cln (bs s) = true) (h2 : 2 ≤ s.size) (h0 : s[0].toNat = 34) : unq (bs s) = unqGo [] ((bs s).drop 1) := by
  unfold unq
  rw [head_bs (by omega), h]
  have e : s[0] = 34 := u8_iff.2 h0
  have : decide (2 ≤ (bs s).length) = true := by rw [bs_length]; simp [h2]
  rw [this, e]; simp
end
end Go.Proofs.YtemlnmelicnneaaDoor
