/-
  Layer 1: lower case, the code's and the document's.
-/
import Derived.Test.YtkcipebpknapkaaDoorTok
import Derived.Laws.IdiomStrings
import Derived.Laws.BytesArg
namespace Go.Proofs.YtkcipebpknapkaaDoor
open Go.RowKit Syn

/-- A block with a mark behind its cells. -/
def BlkM (w : World) (g : Nat) (t : TypeId) (cs : Array Value) (m : Nat) : Prop := w.heap[g]? = some (.cells cs t (m, m + 1)) ∧ cs.size ≤ m
section
variable {w w' : World} {g m : Nat} {t : TypeId} {cs : Array Value}
theorem BlkM.lt (h : BlkM w g t cs m) : g < w.heap.size := by
  rcases Nat.lt_or_ge g w.heap.size with hlt | hge
  · exact hlt
  · have := h.1; rw [Array.getElem?_eq_none hge] at this; cases this
theorem BlkM.cell (h : BlkM w g t cs m) (i : Nat) : w.cell? ⟨g, i, none⟩ = cs[i]? := by simp [World.cell?, h.1]
theorem BlkM.frozen (h : BlkM w g t cs m) (i : Nat) (hi : i < cs.size) : w.frozen? ⟨g, i, none⟩ = false := by
  have := h.2
  simp [World.frozen?, h.1]; omega
theorem BlkM.set_ (h : BlkM w g t cs m) (i : Nat) (u : Value) : BlkM (w.setCell ⟨g, i, none⟩ u) g t (cs.setIfInBounds i u) m := by
  refine ⟨?_, by simpa using h.2⟩
  have := h.1
  simp [World.setCell, Array.getElem?_modify, this]
end
theorem Blk.new (w : World) (t : TypeId) (cs : Array Value) : Blk (w.alloc (.cells cs t)) w.heap.size t cs := by
  unfold Blk; show (w.heap.push _)[w.heap.size]? = _; simp
/-- The first cells are the bytes l. -/
def Holds (cs : Array Value) (l : List UInt8) : Prop := ∀ (j : Nat) (c : UInt8), l[j]? = some c → cs[j]? = some (.int .u8 (c.toNat : Int))
theorem bytesRow_holds (s : ByteArray) (cap : Nat) : Holds (bytesRow s cap) (bs s) := by
  intro j c h
  have h' : s.data[j]? = some c := by simpa [bs] using h
  have hj : j < s.data.size := (Array.getElem?_eq_some_iff.1 h').1
  unfold bytesRow
  rw [Array.getElem?_append_left (by simpa using hj), Array.getElem?_map, h']
  rfl
theorem Holds.set_ {cs : Array Value} {a r : List UInt8} {c d : UInt8} (h : Holds cs (a ++ c :: r)) (hs : a.length < cs.size) : Holds (cs.setIfInBounds a.length (.int .u8 (d.toNat : Int))) (a ++ d :: r) := by
  intro j x hx
  rcases Nat.lt_trichotomy j a.length with hj | hj | hj
  · rw [Array.getElem?_setIfInBounds_ne (by omega)]
    refine h j x ?_
    rw [List.getElem?_append_left hj] at hx ⊢; exact hx
  · subst hj
    rw [Array.getElem?_setIfInBounds_self_of_lt hs]
    simp at hx; rw [hx]
  · rw [Array.getElem?_setIfInBounds_ne (by omega)]
    refine h j x ?_
    rw [List.getElem?_append_right (by omega)] at hx ⊢
    obtain ⟨i, hi⟩ : ∃ i, j - a.length = i + 1 := ⟨j - a.length - 1, by omega⟩
    rw [hi] at hx ⊢; simpa using hx
theorem lower_length (l : List UInt8) : (Syn.lower l).length = l.length := by simp [Syn.lower]
theorem low_take (s : ByteArray) (k : Nat) (h : k < s.size) : Syn.lower ((bs s).take (k + 1)) = Syn.lower ((bs s).take k) ++ [low s[k]] := by
  rw [take_at s k h]; simp [Syn.lower]
theorem low_up {c : UInt8} (h : 65 ≤ c.toNat) (h' : c.toNat ≤ 90) : (low c).toNat = c.toNat + 32 := by
  unfold low; rw [if_pos ⟨h, h'⟩, UInt8.toNat_add]; show (c.toNat + 32) % 256 = _; omega
theorem low_no {c : UInt8} (h : c.toNat < 65 ∨ 90 < c.toNat) : low c = c := by unfold low; rw [if_neg (by omega)]
theorem str_append (a b : List UInt8) : str a ++ str b = str (a ++ b) := by
  apply ByteArray.ext
  simp [str]
theorem strOfNums_str (l : List UInt8) : strOfNums (l.map fun c => (c.toNat : Int)) = str l := by
  unfold strOfNums str
  congr 2
  rw [List.map_map]
  conv => rhs; rw [← List.map_id l]
  congr 1
  funext c
  simp
theorem run_byte (w : World) (c : UInt8) :
    (convert 59 9 (Value.slice (some ⟨w.heap.size, 0, none⟩) 1 1)).run Tryd.prog (w.alloc (.cells #[.int .u8 (c.toNat : Int)] 5)) = Result.ok (Value.string (str [c])) (w.alloc (.cells #[.int .u8 (c.toNat : Int)] 5)) := by
  have := run_convert_bytes_arg (P := Tryd.prog) (w.alloc (.cells #[.int .u8 (c.toNat : Int)] 5)) 59 5 Tryd.underlying59 Tryd.underlying5 w.heap.size 0 1 1 [(c.toNat : Int)] rfl (by
    intro i hi
    obtain rfl : i = 0 := by omega
    exact (Blk.new w 5 #[.int .u8 (c.toNat : Int)]).cell 0) 9 Tryd.underlying9
  rw [← strOfNums_str [c]]
  exact this
theorem low_lt (c : UInt8) : (low c).toNat < 256 := (low c).toNat_lt
end Go.Proofs.YtkcipebpknapkaaDoor
