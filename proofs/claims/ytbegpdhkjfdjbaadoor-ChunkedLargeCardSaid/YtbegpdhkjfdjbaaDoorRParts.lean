/-
  Layer 1: the walk of the document's Parts.
-/
import Derived.Test.YtbegpdhkjfdjbaaDoorPWalk
namespace Go.Proofs.YtbegpdhkjfdjbaaDoor
open Go.RowKit Syn

theorem parts_none {b : UInt8} {s : ByteArray} (h : partsGo b false [] [] (bs s) = none) : parts b (bs s) = none := by
  unfold parts; rw [h]; split <;> rfl
end Go.Proofs.YtbegpdhkjfdjbaaDoor
