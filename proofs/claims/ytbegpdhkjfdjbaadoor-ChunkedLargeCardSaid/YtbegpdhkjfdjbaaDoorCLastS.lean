/-
  Layer 7: the last chunk and the trailers. Plain Lean.
-/
import Derived.Test.YtbegpdhkjfdjbaaDoorCHex
namespace Go.Proofs.YtbegpdhkjfdjbaaDoor
open Go.RowKit Syn

namespace Ck
/-- A field that may be a trailer. -/
def okF (p : List UInt8 × List UInt8) : Bool := decide (nmE p.1 = 0) && (decide (vlE p.2 = 0) && (decide (vlV p.2 = p.2) && !forb (nmV p.1)))
/-- A trailer's line. -/
def fl (p : List UInt8 × List UInt8) : List UInt8 := nmV p.1 ++ [58, 32] ++ p.2 ++ [13, 10]
def txt (l : List (List UInt8 × List UInt8)) : List UInt8 := l.flatMap fl
def okL (l : List (List UInt8 × List UInt8)) : Bool := l.all okF
def lastB (l : List (List UInt8 × List UInt8)) : List UInt8 := [48, 13, 10] ++ (txt l ++ [13, 10])
def fitL (l : List (List UInt8 × List UInt8)) : Bool := decide ((txt l).length + 2 ≤ 8192) && decide (l.length ≤ 64)
theorem okF_of {p : List UInt8 × List UInt8} (h : okF p = true) : nmE p.1 = 0 ∧ vlE p.2 = 0 ∧ vlV p.2 = p.2 ∧ forb (nmV p.1) = false := by
  unfold okF at h
  simp only [Bool.and_eq_true, decide_eq_true_eq, Bool.not_eq_true'] at h
  exact ⟨h.1, h.2.1, h.2.2.1, h.2.2.2⟩
theorem okL_take {l : List (List UInt8 × List UInt8)} {k : Nat} (h : k < l.length) : okL (l.take (k + 1)) = (okL (l.take k) && okF l[k]) := by
  unfold okL; rw [List.take_succ_eq_append_getElem h, List.all_append]; simp
theorem okL_no {l : List (List UInt8 × List UInt8)} {k : Nat} (h : k < l.length) (h2 : okF l[k] = false) : okL l = false := by
  unfold okL
  rw [List.all_eq_false]
  exact ⟨l[k], List.getElem_mem h, by rw [h2]; simp⟩
theorem txt_take {l : List (List UInt8 × List UInt8)} {k : Nat} (h : k < l.length) : txt (l.take (k + 1)) = txt (l.take k) ++ fl l[k] := by
  unfold txt; rw [List.take_succ_eq_append_getElem h, List.flatMap_append]; simp
theorem nmV_len (x : List UInt8) : (nmV x).length ≤ 64 := by
  by_cases h : nmE x = 0
  · unfold nmV
    rw [if_pos h]
    unfold nmE at h
    split at h
    · split at h
      · cases h
      · unfold Syn.lower; rw [List.length_map]; omega
    · cases h
  · unfold nmV; rw [if_neg h]; simp
theorem vlV_len {x : List UInt8} (h : vlE x = 0) : (vlV x).length ≤ 2048 := by
  unfold vlV
  rw [if_pos h]
  unfold vlE at h
  split at h
  · split at h
    · cases h
    · omega
  · cases h
theorem fl_len {p : List UInt8 × List UInt8} (h : okF p = true) : (fl p).length ≤ 2200 := by
  obtain ⟨-, h2, h3, -⟩ := okF_of h
  have h4 := vlV_len h2
  rw [h3] at h4
  have := nmV_len p.1
  unfold fl
  simp only [List.length_append, List.length_cons, List.length_nil]
  omega
theorem txt_len : ∀ (l : List (List UInt8 × List UInt8)), okL l = true → (txt l).length ≤ l.length * 2200
  | [], _ => by simp [txt]
  | p :: r, h => by
    unfold okL at h
    rw [List.all_cons, Bool.and_eq_true] at h
    have h1 := fl_len h.1
    have h2 := txt_len r h.2
    have e : txt (p :: r) = fl p ++ txt r := rfl
    rw [e, List.length_append, List.length_cons, Nat.add_mul]
    omega
end Ck
end Go.Proofs.YtbegpdhkjfdjbaaDoor
