/-
  Layer 8: constant bytes; bytes as a text, of any length.
-/
import Derived.Test.YtjffffpfejmoiaaGreatDoorNConv
import Derived.Shelf.Bytes.SlSmallAll
namespace Go.Proofs.YtjffffpfejmoiaaGreatDoor
open Go.RowKit Syn Hd Fr Ck
theorem rd_arr (w : World) (cs : Array Value) (t : TypeId) (xs : List Value) (n : Nat) (h : cs.toList = xs) (hl : xs.length = n * 1) : Rd (w.alloc (.cells cs t)) 1 (.slice (some ⟨w.heap.size, 0, none⟩) n n) n xs := by
  refine ⟨_, _, rfl, Nat.le_refl _, hl, fun _ => ⟨w.heap.size, 0, rfl, by rw [alloc_size']; omega, fun j u hu => ?_⟩⟩
  rw [Nat.zero_add]
  have e : cs[j]? = xs[j]? := by rw [← h, Array.getElem?_toList]
  simp [World.cell?, World.alloc, -World.alloc_eq]
  rw [e]; exact hu
theorem const_any (l : List UInt8) (W : World) : ∃ w', Sem.run Tryz.prog (convert 23 23 (.slice (some ⟨W.heap.size, 0, none⟩) l.length l.length)) (W.alloc (.cells (u8s l).toArray 5)) = .ok (.slice (some ⟨W.heap.size, 0, none⟩) l.length l.length) w' ∧
    Rd w' 1 (.slice (some ⟨W.heap.size, 0, none⟩) l.length l.length) l.length (u8s l) ∧ Below W.heap.size W w' :=
  ⟨_, Lib.run_convert_bytes_const (P := Tryz.prog) W 23 5 (u8s l).toArray l.length l.length Tryz.underlying23 Tryz.underlying5, rd_const W l _, (Below.refl _ W).alloc (Nat.le_refl _) _⟩
theorem conv_all {w : World} {v : Value} {l : List UInt8} (h : Rd w 1 v l.length (u8s l)) : Sem.run Tryz.prog (convert 23 9 v) w = .ok (.string (str l)) w := by
  by_cases hl : 0 < l.length
  · exact conv_rd h hl
  · obtain rfl : l = [] := List.length_eq_zero_iff.1 (by omega)
    obtain ⟨A, cap, rfl, -, -, -⟩ := h
    exact Go.Proofs.run_convert_bytes_zero w 23 5 Tryz.underlying23 Tryz.underlying5 A cap 9 Tryz.underlying9
end Go.Proofs.YtjffffpfejmoiaaGreatDoor
