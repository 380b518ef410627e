/-
  Layer 1: the document's Quote.
-/
import Derived.Test.YtemlnmelicnneaaDoorQuote
namespace Go.Proofs.YtemlnmelicnneaaDoor
open Go.RowKit Syn

theorem extract_str (s : ByteArray) (a b : Nat) : s.extract a b = str (((bs s).take b).drop a) := by
  apply ByteArray.ext
  rw [ByteArray.data_extract]
  apply Array.ext'
  rw [Array.toList_extract, List.extract_eq_take_drop, ← List.drop_take]
  rfl
theorem extract_one (s : ByteArray) (k : Nat) (h : k < s.size) : s.extract k (k + 1) = str [s[k]] := by
  rw [extract_str, take_at s k h, List.drop_append_of_le_length (by rw [List.length_take, bs_length]; omega), List.drop_of_length_le (by rw [List.length_take, bs_length]; omega)]
  rfl
end Go.Proofs.YtemlnmelicnneaaDoor
