/-
  Layer 1: List, the code's and the document's.
-/
import Derived.Test.YtbegpdhkjfdjbaaDoorRParts
namespace Go.Proofs.YtbegpdhkjfdjbaaDoor
open Go.RowKit Syn

theorem own_mono {w : World} {B B' sz n : Nat} {e : TypeId} {v : Value} {xs : List Value} (h : Own w B e sz v n xs) (hB : B' ≤ B) : Own w B' e sz v n xs := by
  obtain ⟨hl, h⟩ := h
  refine ⟨hl, ?_⟩
  rcases h with h | ⟨g, cap, cur, e1, h1, h2⟩
  · exact .inl h
  · exact .inr ⟨g, cap, cur, e1, Nat.le_trans hB h1, h2⟩
def full (l : List (List UInt8)) : List (List UInt8) := l.filter fun y => !y.isEmpty
theorem full_yes {l : List (List UInt8)} {k : Nat} (h : k < l.length) (hx : l[k].isEmpty = false) : full (l.take (k + 1)) = full (l.take k) ++ [l[k]] := by
  unfold full
  rw [List.take_succ_eq_append_getElem h, List.filter_append]; simp [hx]
theorem full_no {l : List (List UInt8)} {k : Nat} (h : k < l.length) (hx : l[k].isEmpty = true) : full (l.take (k + 1)) = full (l.take k) := by
  unfold full
  rw [List.take_succ_eq_append_getElem h, List.filter_append]; simp [hx]
theorem full_le (l : List (List UInt8)) (k : Nat) : (full (l.take k)).length ≤ k := by
  have h1 := List.length_filter_le (fun y : List UInt8 => !y.isEmpty) (l.take k)
  have h2 := List.length_take_le k l
  exact Nat.le_trans h1 h2
theorem str_isEmpty (x : List UInt8) : (str x).toList.isEmpty = x.isEmpty := by rw [str_toList]
theorem partsGo_len (b : UInt8) : ∀ (n : Nat) (r : List UInt8) (q : Bool) (c : List UInt8) (out l : List (List UInt8)), r.length ≤ n → partsGo b q c out r = some l → l.length ≤ out.length + r.length + 1
  | n, [], q, c, out, l, _, h => by
    rw [partsGo] at h
    cases q
    · simp at h; rw [← h]; simp
    · simp at h
  | 0, _ :: _, _, _, _, _, hn, _ => by simp at hn
  | n + 1, a :: r, q, c, out, l, hn, h => by
    rw [partsGo_cons] at h
    simp only [List.length_cons] at hn ⊢
    split at h
    · cases r with
      | nil => cases h
      | cons d r' =>
        simp only [List.length_cons] at hn ⊢
        have := partsGo_len b n r' _ _ _ _ (by omega) h
        omega
    · split at h
      · have := partsGo_len b n r _ _ _ _ (by omega) h
        omega
      · split at h
        · have := partsGo_len b n r _ _ _ _ (by omega) h
          simp at this; omega
        · have := partsGo_len b n r _ _ _ _ (by omega) h
          omega
theorem parts_len {b : UInt8} {s : ByteArray} {l : List (List UInt8)} (h : parts b (bs s) = some l) : l.length ≤ s.size + 1 := by
  unfold parts at h
  split at h
  · have := partsGo_len b _ _ _ _ _ _ (Nat.le_refl _) h
    rw [bs_length] at this; simpa using this
  · cases h
end Go.Proofs.YtbegpdhkjfdjbaaDoor
