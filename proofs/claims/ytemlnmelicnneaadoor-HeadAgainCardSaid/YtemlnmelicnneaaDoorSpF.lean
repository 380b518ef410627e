/-
  The pieces between a byte, step by step.
-/
import Derived.Test.YtemlnmelicnneaaDoorSp
namespace Go.Proofs.YtemlnmelicnneaaDoor
open Go.RowKit Syn Fr

def spS (c : UInt8) (a : List Bytes × Bytes) (x : UInt8) : List Bytes × Bytes := if x = c then (a.1 ++ [a.2], []) else (a.1, a.2 ++ [x])
def spF (c : UInt8) (s : Bytes) : List Bytes × Bytes := s.foldl (spS c) ([], [])
theorem spF_go (c : UInt8) : ∀ (s : Bytes) (o : List Bytes) (cur y : Bytes) (ys : List Bytes), sp c s = y :: ys → (s.foldl (spS c) (o, cur)).1 ++ [(s.foldl (spS c) (o, cur)).2] = o ++ (cur ++ y) :: ys
  | [], o, cur, y, ys, h => by
    have e : ([] : Bytes) = y ∧ [] = ys := by simpa [sp] using h
    rw [← e.1, ← e.2, List.append_nil]; rfl
  | x :: r, o, cur, y, ys, h => by
    rw [List.foldl_cons]
    unfold sp at h
    split at h
    · next hx =>
      have e : ([] : Bytes) = y ∧ sp c r = ys := by simpa using h
      rw [show spS c (o, cur) x = (o ++ [cur], []) from if_pos hx]
      cases hr : sp c r with
      | nil => exact absurd hr (sp_pos c r)
      | cons z zs =>
        rw [spF_go c r _ _ z zs hr, ← e.1, ← e.2, hr]; simp
    · next hx =>
      rw [show spS c (o, cur) x = (o, cur ++ [x]) from if_neg hx]
      cases hr : sp c r with
      | nil => exact absurd hr (sp_pos c r)
      | cons z zs =>
        rw [hr] at h
        have e : x :: z = y ∧ zs = ys := by simpa using h
        rw [spF_go c r _ _ z zs hr, ← e.1, ← e.2]; simp
theorem spF_sp (c : UInt8) (s : Bytes) : (spF c s).1 ++ [(spF c s).2] = sp c s := by
  cases h : sp c s with
  | nil => exact absurd h (sp_pos c s)
  | cons y ys => exact spF_go c s [] [] y ys h
theorem spF_take {c : UInt8} {s : Bytes} {k : Nat} (h : k < s.length) : spF c (s.take (k + 1)) = spS c (spF c (s.take k)) s[k] := by
  unfold spF
  rw [List.take_succ_eq_append_getElem h, List.foldl_append]; rfl
theorem spF_len (c : UInt8) (s : Bytes) : (spF c s).1.length ≤ s.length ∧ (spF c s).2.length ≤ s.length := by
  have h := spF_sp c s
  have h1 := sp_length c s
  have h2 := sp_most c s (spF c s).2 (by rw [← h]; simp)
  have h3 : s.count c ≤ s.length := List.count_le_length
  rw [← h, List.length_append] at h1
  simp at h1
  omega
end Go.Proofs.YtemlnmelicnneaaDoor
