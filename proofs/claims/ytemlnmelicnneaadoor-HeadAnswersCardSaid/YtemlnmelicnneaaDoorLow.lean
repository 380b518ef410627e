/-
  Layer 1: lower case, the code's and the document's.
-/
import Derived.Test.YtemlnmelicnneaaDoorTok
import Derived.Laws.IdiomStrings
import Derived.Laws.BytesArg
namespace Go.Proofs.YtemlnmelicnneaaDoor
open Go.RowKit Syn

/-- A block with a mark behind its cells. -/
def BlkM (w : World) (g : Nat) (t : TypeId) (cs : Array Value) (m : Nat) : Prop := w.heap[g]? = some (.cells cs t (m, m + 1)) ∧ cs.size ≤ m
section
variable {w w' : World} {g m : Nat} {t : TypeId} {cs : Array Value}
theorem BlkM.lt (h : BlkM w g t cs m) : g < w.heap.size := by
  rcases Nat.lt_or_ge g w.heap.size with hlt | hge
  · exact hlt
  · have := h.1; rw [Array.getElem?_eq_none hge] at this; cases this
theorem BlkM.cell (h : BlkM w g t cs m) (i : Nat) : w.cell? ⟨g, i, none⟩ = cs[i]? := by simp [World.cell?, h.1]
theorem BlkM.frozen (h : BlkM w g t cs m) (i : Nat) (hi : i < cs.size) : w.frozen? ⟨g, i, none⟩ = false := by
  have := h.2
  simp [World.frozen?, h.1]; omega
theorem BlkM.set_ (h : BlkM w g t cs m) (i : Nat) (u : Value) : BlkM (w.setCell ⟨g, i, none⟩ u) g t (cs.setIfInBounds i u) m := by
  refine ⟨?_, by simpa using h.2⟩
  have := h.1
  simp [World.setCell, Array.getElem?_modify, this]
end
theorem Blk.new (w : World) (t : TypeId) (cs : Array Value) : Blk (w.alloc (.cells cs t)) w.heap.size t cs := by
  unfold Blk; show (w.heap.push _)[w.heap.size]? = _; simp
/-- The first cells are the bytes l. -/
def Holds (cs : Array Value) (l : List UInt8) : Prop := ∀ (j : Nat) (c : UInt8), l[j]? = some c → cs[j]? = some (.int .u8 (c.toNat : Int))
theorem bytesRow_holds (s : ByteArray) (cap : Nat) : Holds (bytesRow s cap) (bs s) := by
  intro j c h
  have h' : s.data[j]? = some c := by simpa [bs] using h
  have hj : j < s.data.size := (Array.getElem?_eq_some_iff.1 h').1
  unfold bytesRow
  rw [Array.getElem?_append_left (by simpa using hj), Array.getElem?_map, h']
  rfl
theorem Holds.set_ {cs : Array Value} {a r : List UInt8} {c d : UInt8} (h : Holds cs (a ++ c :: r)) (hs : a.length < cs.size) : Holds (cs.setIfInBounds a.length (.int .u8 (d.toNat : Int))) (a ++ d :: r) := by
  intro j x hx
  rcases Nat.lt_trichotomy j a.length with hj | hj | hj
  · rw [Array.getElem?_setIfInBounds_ne (by omega)]
    refine h j x ?_
    rw [List.getElem?_append_left hj] at hx ⊢; exact hx
  · subst hj
    rw [Array.getElem?_setIfInBounds_self_of_lt hs]
    simp at hx; rw [hx]
  · rw [Array.getElem?_setIfInBounds_ne (by omega)]
    refine h j x ?_
    rw [List.getElem?_append_right (by omega)] at hx ⊢
    obtain ⟨i, hi⟩ : ∃ i, j - a.length = i + 1 := ⟨j - a.length - 1, by omega⟩
    rw [hi] at hx ⊢; simpa using hx
theorem lower_length (l : List UInt8) : (Syn.lower l).length = l.length := by simp [Syn.lower]
theorem low_take (s : ByteArray) (k : Nat) (h : k < s.size) : Syn.lower ((bs s).take (k + 1)) = Syn.lower ((bs s).take k) ++ [low s[k]] := by
  rw [take_at s k h]; simp [Syn.lower]
theorem low_up {c : UInt8} (h : 65 ≤ c.toNat) (h' : c.toNat ≤ 90) : (low c).toNat = c.toNat + 32 := by
  unfold low; rw [if_pos ⟨h, h'⟩, UInt8.toNat_add]; show (c.toNat + 32) % 256 = _; omega
theorem low_no {c : UInt8} (h : c.toNat < 65 ∨ 90 < c.toNat) : low c = c := by unfold low; rw [if_neg (by omega)]
theorem str_append (a b : List UInt8) : str a ++ str b = str (a ++ b) := by
  apply ByteArray.ext
  simp [str]
theorem strOfNums_str (l : List UInt8) : strOfNums (l.map fun c => (c.toNat : Int)) = str l := by
  unfold strOfNums str
  congr 2
  rw [List.map_map]
  conv => rhs; rw [← List.map_id l]
  congr 1
  funext c
  simp
theorem run_byte (w : World) (c : UInt8) :
    (convert 27 9 (Value.slice (some ⟨w.heap.size, 0, none⟩) 1 1)).run Tryd.prog (w.alloc (.cells #[.int .u8 (c.toNat : Int)] 5)) = Result.ok (Value.string (str [c])) (w.alloc (.cells #[.int .u8 (c.toNat : Int)] 5)) := by
  have := run_convert_bytes_arg (P := Tryd.prog) (w.alloc (.cells #[.int .u8 (c.toNat : Int)] 5)) 27 5 Tryd.underlying27 Tryd.underlying5 w.heap.size 0 1 1 [(c.toNat : Int)] rfl (by
    intro i hi
    obtain rfl : i = 0 := by omega
    exact (Blk.new w 5 #[.int .u8 (c.toNat : Int)]).cell 0) 9 Tryd.underlying9
  rw [← strOfNums_str [c]]
  exact this
theorem low_lt (c : UInt8) : (low c).toNat < 256 := (low c).toNat_lt
set_option maxRecDepth 100000 in
set_option maxHeartbeats 1000000 in
theorem rlower_any (s : ByteArray) (w : World) (hs : s.size ≤ 1000000) :
    Calls Tryd.prog 25 #[.string s] w fun e w' => e = .returned (.string (str (Syn.lower (bs s)))) ∧ Below w.heap.size w w' := by
  go_enter Tryd.func25, Tryd.ntmps25
  go_wp2
  go_loopw [3, 4, 5, 8] (fun o _ _ i wr => ∃ k : Nat, i = .int .i64 k ∧ k ≤ s.size ∧ o = .string (str (Syn.lower ((bs s).take k))) ∧ Below w.heap.size w wr) (fun _ _ _ i _ => s.size - (intOf i).toNat)
  case atStart => exact ⟨0, rfl, by omega, rfl, Below.refl _ _⟩
  case round =>
    obtain ⟨k, rfl, hk, rfl, hB⟩ := hrel
    by_cases hlt : k < s.size
    · have hlen : (Syn.lower ((bs s).take k)).length ≤ 1000000 := by rw [lower_length, List.length_take, bs_length]; omega
      have hcv := run_byte wr (low s[k])
      have hsz : (str (Syn.lower ((bs s).take k))).size + (str [low s[k]]).size ≤ 9223372036854775807 := by rw [str_size, str_size]; simp; omega
      have hnx : Hid (str (Syn.lower ((bs s).take k)) ++ str [low s[k]] = str (Syn.lower ((bs s).take (k + 1)))) := Lib.hid (by rw [str_append, low_take s k hlt])
      generalize str (Syn.lower ((bs s).take k)) = o at hsz hnx ⊢
      by_cases hu : 65 ≤ s[k].toNat ∧ s[k].toNat ≤ 90
      · have hu1 := hu.1
        have hu2 := hu.2
        have e : ((low s[k]).toNat : Int) = (s[k].toNat : Int) + 32 := by rw [low_up hu1 hu2]; rfl
        rw [e] at hcv
        clear e
        generalize str [low s[k]] = q at hcv hsz hnx
        go_wp2
        go_roundw
        case rel => exact ⟨k + 1, by go_num, by omega, by rw [← hnx.out], hB.alloc hB.size _⟩
        case measure => simp [intOf]; omega
      · rw [low_no (show s[k].toNat < 65 ∨ 90 < s[k].toNat by omega)] at hcv hsz hnx
        generalize str [s[k]] = q at hcv hsz hnx
        by_cases hu1 : 65 ≤ s[k].toNat
        · have hu2 : 90 < s[k].toNat := by omega
          go_wp2
          go_roundw
          case rel => exact ⟨k + 1, by go_num, by omega, by rw [← hnx.out], hB.alloc hB.size _⟩
          case measure => simp [intOf]; omega
        · have hu2 : s[k].toNat < 65 := by omega
          go_wp2
          go_roundw
          case rel => exact ⟨k + 1, by go_num, by omega, by rw [← hnx.out], hB.alloc hB.size _⟩
          case measure => simp [intOf]; omega
    · obtain rfl : k = s.size := by omega
      rw [take_all]
      go_wp2
      go_ret
      exact ⟨rfl, hB⟩
end Go.Proofs.YtemlnmelicnneaaDoor
