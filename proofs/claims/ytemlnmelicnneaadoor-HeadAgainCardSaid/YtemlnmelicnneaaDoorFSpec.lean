/-
  What layer 6 computes. Plain Lean.
-/
import Derived.Test.YtemlnmelicnneaaDoorGLow
namespace Go.Proofs.YtemlnmelicnneaaDoor
open Go.RowKit Syn

abbrev Bytes := List UInt8
namespace Fr
/-- The values of a name. -/
def allV (L : List (Bytes × Bytes)) (name : Bytes) : List Bytes := (L.filter fun p => decide (Syn.lower p.1 = Syn.lower name)).map (·.2)
def elemsGo : List Bytes → List Bytes → Option (List Bytes)
  | acc, [] => some acc
  | acc, v :: r => match Syn.list v with | none => none | some l => elemsGo (acc ++ l) r
def cl : Bytes := [99, 111, 110, 116, 101, 110, 116, 45, 108, 101, 110, 103, 116, 104]
def te : Bytes := [116, 114, 97, 110, 115, 102, 101, 114, 45, 101, 110, 99, 111, 100, 105, 110, 103]
def ch : Bytes := [99, 104, 117, 110, 107, 101, 100]
/-- A frame (kind and length), and the error's number. -/
abbrev Out := (Nat × Nat) × Int
def lengthOf (x : Bytes) : Out := if (number x).2 = 0 then (if 65536 < (number x).1 then ((0, 0), 5) else ((2, (number x).1), 0)) else ((0, 0), 30)
def frameL : Option (List Bytes) → Out
  | some (x :: r) => if r.all (· == x) then lengthOf x else ((0, 0), 30)
  | _ => ((0, 0), 30)
def frameC : Option (List Bytes) → Out
  | some [c] => if Syn.lower c = ch then ((3, 0), 0) else ((0, 0), 32)
  | _ => ((0, 0), 32)
def frame (K : Nat) (L : List (Bytes × Bytes)) : Out :=
  if !(allV L cl).isEmpty && !(allV L te).isEmpty then ((0, 0), 31)
  else if !(allV L te).isEmpty then frameC (elemsGo [] (allV L te))
  else if (allV L cl).isEmpty then ((K, 0), 0)
  else frameL (elemsGo [] (allV L cl))
theorem elemsGo_cons (acc : List Bytes) (v : Bytes) (r : List Bytes) : elemsGo acc (v :: r) = match Syn.list v with | none => none | some l => elemsGo (acc ++ l) r := by rw [elemsGo]
theorem allV_take {L : List (Bytes × Bytes)} {k : Nat} (h : k < L.length) (name : Bytes) : allV (L.take (k + 1)) name = allV (L.take k) name ++ (if Syn.lower L[k].1 = Syn.lower name then [L[k].2] else []) := by
  unfold allV
  rw [List.take_succ_eq_append_getElem h, List.filter_append, List.map_append]
  congr 1
  by_cases he : Syn.lower L[k].1 = Syn.lower name
  · rw [if_pos he, List.filter_cons_of_pos (by simpa using he)]; rfl
  · rw [if_neg he, List.filter_cons_of_neg (by simpa using he)]; rfl
theorem allV_length (L : List (Bytes × Bytes)) (name : Bytes) : (allV L name).length ≤ L.length := by
  unfold allV; rw [List.length_map]; exact List.length_filter_le _ _
theorem allV_mem {L : List (Bytes × Bytes)} {name v : Bytes} (h : v ∈ allV L name) : ∃ p ∈ L, v = p.2 := by
  unfold allV at h
  rw [List.mem_map] at h
  obtain ⟨p, hp, rfl⟩ := h
  exact ⟨p, (List.mem_filter.1 hp).1, rfl⟩
/-- Few fields, none of them long. -/
structure Few (L : List (Bytes × Bytes)) : Prop where
  len : L.length ≤ 100
  short : ∀ p ∈ L, p.1.length ≤ 5000 ∧ p.2.length ≤ 5000
end Fr
end Go.Proofs.YtemlnmelicnneaaDoor
