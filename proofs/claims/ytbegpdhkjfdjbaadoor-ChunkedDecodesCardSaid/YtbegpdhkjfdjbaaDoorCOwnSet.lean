/-
  Layer 7: a cell of an own row of bytes is written.
-/
import Derived.Test.YtbegpdhkjfdjbaaDoorCUtil
namespace Go.Proofs.YtbegpdhkjfdjbaaDoor
open Go.RowKit Syn Ck

namespace Ck
/-- A row of bytes of one's own after one of its cells is written. -/
theorem own_set {w : World} {B g : Nat} {cap : Nat} {l : List UInt8} (h : Own w B 5 1 (.slice (some ⟨g, 0, none⟩) l.length cap) l.length (u8s l)) (k : Nat) (c : UInt8) :
    Own (w.setCell ⟨g, k, none⟩ (.int .u8 (c.toNat : Int))) B 5 1 (.slice (some ⟨g, 0, none⟩) (l.set k c).length cap) (l.set k c).length (u8s (l.set k c)) := by
  obtain ⟨hl, h⟩ := h
  rcases h with ⟨h1, -⟩ | ⟨g', cap', cur, e, hB, hg, hn, hm, hs, ht⟩
  · cases h1
  · cases e
    rw [Nat.mul_one] at hs ht
    have hb : Blk w g 5 cur := hg
    have hb2 := hb.set_ k (.int .u8 (c.toNat : Int))
    refine ⟨by rw [u8s_length, Nat.mul_one], .inr ⟨g, cap, _, rfl, hB, hb2, by rw [List.length_set]; exact hn, hm, by rw [Array.size_setIfInBounds, Nat.mul_one]; exact hs, ?_⟩⟩
    rw [Nat.mul_one, Array.toList_setIfInBounds, List.length_set, List.take_set, ht]
    unfold u8s
    rw [List.map_set]
/-- Its cells and marks. -/
theorem own_cell {w : World} {B g cap : Nat} {l : List UInt8} (h : Own w B 5 1 (.slice (some ⟨g, 0, none⟩) l.length cap) l.length (u8s l)) {k : Nat} (hk : k < l.length) :
    w.cell? ⟨g, k, none⟩ = some (.int .u8 (l[k].toNat : Int)) ∧ w.frozen? ⟨g, k, none⟩ = false := by
  obtain ⟨hl, h⟩ := h
  rcases h with ⟨h1, -⟩ | ⟨g', cap', cur, e, hB, hg, hn, hm, hs, ht⟩
  · cases h1
  · cases e
    have hb : Blk w g 5 cur := hg
    refine ⟨?_, hb.frozen k⟩
    rw [hb.cell k]
    have h1 := u8s_at hk
    rw [← ht, List.getElem?_take, if_pos (by omega), Array.getElem?_toList] at h1
    exact h1
end Ck
end Go.Proofs.YtbegpdhkjfdjbaaDoor
