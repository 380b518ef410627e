/-
  Layer 1: Quote and Unquote, the code's and the document's.
-/
import Derived.Test.YtemlnmelicnneaaDoorLow
import Derived.Test.YtemlnmelicnneaaDoorPush
namespace Go.Proofs.YtemlnmelicnneaaDoor
open Go.RowKit Syn

theorem own_new (w : World) (B : Nat) (e : TypeId) (u : Value) (hB : B ≤ w.heap.size) : Own (w.alloc (.cells #[u] e)) B e 1 (.slice (some ⟨w.heap.size, 0, none⟩) 1 1) 1 [u] :=
  ⟨rfl, .inr ⟨w.heap.size, 1, #[u], rfl, hB, heap_alloc_new w _, Nat.le_refl _, by decide, rfl, rfl⟩⟩
theorem u8_iff {c d : UInt8} : c = d ↔ c.toNat = d.toNat := ⟨fun h => by rw [h], fun h => UInt8.toNat_inj.1 h⟩
theorem u8_beq_true {c : UInt8} {n : Nat} (h : c.toNat = n) : ((c.toNat : Int) == (n : Int)) = true := beq_cast_true h
theorem escs_snoc (s : ByteArray) (k : Nat) (h : k < s.size) : escs ((bs s).take (k + 1)) = escs ((bs s).take k) ++ esc s[k] := by
  rw [take_at s k h]; simp [escs]
theorem esc_le (c : UInt8) : (esc c).length ≤ 2 := by unfold esc; split <;> simp
theorem escs_length (l : List UInt8) : (escs l).length ≤ 2 * l.length := by
  induction l with
  | nil => decide
  | cons c l ih =>
    have := esc_le c
    have e : escs (c :: l) = esc c ++ escs l := by simp [escs]
    rw [e, List.length_append, List.length_cons]; omega
end Go.Proofs.YtemlnmelicnneaaDoor
