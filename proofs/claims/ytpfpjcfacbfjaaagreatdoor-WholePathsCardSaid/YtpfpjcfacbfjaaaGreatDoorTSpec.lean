/-
  What layer 33 computes. Plain Lean.
-/
import Derived.Test.YtpfpjcfacbfjaaaGreatDoorGLow
namespace Go.Proofs.YtpfpjcfacbfjaaaGreatDoor
open Go.RowKit

abbrev Bytes := List UInt8
namespace Ti
def org : Bytes := [111, 114, 105, 103, 105, 110]
/-- A name that stands twice. -/
def Dup (p : List Bytes) : Prop := ∃ i, ∃ h : i < p.length, p[i] ∈ p.take i
/-- A name that is none: an empty one, and the origin ahead of the end. -/
def Bad (p : List Bytes) : Prop := ∃ i, ∃ h : i < p.length, p[i] = [] ∨ (p[i] = org ∧ i + 1 < p.length)
open Classical in
/-- The number of the error of a path. -/
noncomputable def chkN (p : List Bytes) : Int := if 4 < p.length ∨ Dup p then 17 else if Bad p then 8 else 0
theorem chkN_long {p : List Bytes} (h : 4 < p.length) : chkN p = 17 := if_pos (.inl h)
theorem chkN_dup {p : List Bytes} (h : Dup p) : chkN p = 17 := if_pos (.inr h)
theorem chkN_bad {p : List Bytes} (h1 : ¬4 < p.length) (h2 : ¬Dup p) (h : Bad p) : chkN p = 8 := by
  unfold chkN; rw [if_neg (by rintro (h | h); exact h1 h; exact h2 h), if_pos h]
theorem chkN_ok {p : List Bytes} (h1 : ¬4 < p.length) (h2 : ¬Dup p) (h : ¬Bad p) : chkN p = 0 := by
  unfold chkN; rw [if_neg (by rintro (h | h); exact h1 h; exact h2 h), if_neg h]
theorem chkN_at (p : List Bytes) : chkN p = 17 ∨ chkN p = 8 ∨ chkN p = 0 := by
  unfold chkN
  split
  · exact .inl rfl
  · split
    · exact .inr (.inl rfl)
    · exact .inr (.inr rfl)
theorem not_dup {p : List Bytes} (h : ∀ i, (hi : i < p.length) → p[i] ∉ p.take i) : ¬Dup p := fun ⟨i, hi, hm⟩ => h i hi hm
theorem not_bad {p : List Bytes} (h : ∀ i, (hi : i < p.length) → p[i] ≠ [] ∧ ¬(p[i] = org ∧ i + 1 < p.length)) : ¬Bad p := fun ⟨i, hi, hm⟩ => by
  rcases hm with hm | hm
  · exact (h i hi).1 hm
  · exact (h i hi).2 hm
/-- The law's count of what the names hold, as the machine adds. -/
def addUp : Int → List Bytes → Int
  | z, [] => z
  | z, x :: r => addUp (wrap64 (z + (1 + (x.length : Int)))) r
theorem addUp_append : ∀ (z : Int) (a b : List Bytes), addUp z (a ++ b) = addUp (addUp z a) b
  | _, [], _ => rfl
  | _, _ :: a, b => addUp_append _ a b
theorem addUp_take (z : Int) {l : List Bytes} {k : Nat} (h : k < l.length) : addUp z (l.take (k + 1)) = wrap64 (addUp z (l.take k) + (1 + (l[k].length : Int))) := by
  rw [List.take_succ_eq_append_getElem h, addUp_append]; rfl
end Ti
end Go.Proofs.YtpfpjcfacbfjaaaGreatDoor
