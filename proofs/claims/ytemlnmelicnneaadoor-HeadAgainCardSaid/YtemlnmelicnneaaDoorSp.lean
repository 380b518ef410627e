/-
  strings.Split at one byte; framing.trim.
-/
import Derived.Test.YtemlnmelicnneaaDoorGLow
import Derived.Test.YtemlnmelicnneaaDoorShelfSplit
import Derived.Test.YtemlnmelicnneaaDoorFSpec
namespace Go.Proofs.YtemlnmelicnneaaDoor
open Go.RowKit Syn Fr

/-- The pieces between a byte. -/
def sp (c : UInt8) : Bytes → List Bytes
  | [] => [[]]
  | x :: r => if x = c then [] :: sp c r else match sp c r with | [] => [[x]] | y :: ys => (x :: y) :: ys
theorem sp_pos (c : UInt8) : ∀ s : Bytes, sp c s ≠ []
  | [] => by simp [sp]
  | x :: r => by
    unfold sp
    split
    · simp
    · split <;> simp
theorem sp_miss {c : UInt8} : ∀ {s : Bytes}, s.dropWhile (· != c) = [] → sp c s = [s]
  | [], _ => rfl
  | x :: r, h => by
    rw [List.dropWhile_cons] at h
    by_cases hx : x = c
    · rw [if_neg (by simp [hx])] at h; cases h
    · rw [if_pos (by simp [hx])] at h
      unfold sp
      rw [if_neg hx, sp_miss h]
theorem sp_hit {c : UInt8} : ∀ {s : Bytes}, (s.dropWhile (· != c)).isEmpty = false → sp c s = s.takeWhile (· != c) :: sp c ((s.dropWhile (· != c)).drop 1)
  | [], h => by cases h
  | x :: r, h => by
    rw [List.dropWhile_cons] at h ⊢
    rw [List.takeWhile_cons]
    by_cases hx : x = c
    · rw [if_neg (by simp [hx]), if_neg (by simp [hx])]
      conv => lhs; unfold sp
      rw [if_pos hx]; rfl
    · rw [if_pos (by simp [hx])] at h
      rw [if_pos (by simp [hx]), if_pos (by simp [hx])]
      conv => lhs; unfold sp
      rw [if_neg hx, sp_hit h]
theorem splitK_sp (c : UInt8) : ∀ (k : Nat) (s : Bytes), s.count c ≤ k → Lib.splitK [c] 0 k s = sp c s
  | 0, s, h => by
    show [s] = _
    rcases index_split c s with ⟨-, h2, -⟩ | ⟨i, h1, h2, -, -, -⟩
    · rw [sp_miss h2]
    · exfalso
      have h3 := (Lib.indexByte_some h1).1
      have : c ∈ s := List.mem_of_getElem? h3
      have := List.count_pos_iff.2 this
      omega
  | k + 1, s, h => by
    unfold Lib.splitK
    rw [Lib.index_one]
    rcases index_split c s with ⟨h1, h2, -⟩ | ⟨i, h1, h2, h3, h4, h5⟩
    · rw [h1, if_pos (by decide), sp_miss h2]
    · have hc : (s.drop (i + 1)).count c ≤ k := by
        have e : s = s.take i ++ (c :: s.drop (i + 1)) := by
          have hi := (Lib.indexByte_some h1).1
          rw [List.getElem?_eq_getElem h2, Option.some.injEq] at hi
          conv => lhs; rw [← List.take_append_drop i s, List.drop_eq_getElem_cons h2, hi]
        rw [e, List.count_append, List.count_cons_self] at h
        omega
      rw [h1, if_neg (by rw [beq_iff_eq]; omega), sp_hit h5, h3, h4]
      show s.take (i + 0) :: Lib.splitK [c] 0 k (s.drop (i + 1)) = _
      rw [splitK_sp c k _ hc]; rfl
theorem sp_most (c : UInt8) : ∀ (s : Bytes), ∀ x ∈ sp c s, x.length ≤ s.length
  | [], x, h => by unfold sp at h; rw [List.mem_singleton] at h; rw [h]; simp
  | y :: r, x, h => by
    unfold sp at h
    split at h
    · rcases List.mem_cons.1 h with rfl | h
      · simp
      · have := sp_most c r x h; rw [List.length_cons]; omega
    · split at h
      · rw [List.mem_singleton] at h; rw [h]; simp
      · next z zs he =>
        rcases List.mem_cons.1 h with rfl | h
        · have := sp_most c r z (by rw [he]; simp); rw [List.length_cons, List.length_cons]; omega
        · have := sp_most c r x (by rw [he]; simp [h]); rw [List.length_cons]; omega
theorem sp_length (c : UInt8) : ∀ (s : Bytes), (sp c s).length = s.count c + 1
  | [] => rfl
  | y :: r => by
    unfold sp
    have := sp_length c r
    split
    · next h => rw [List.length_cons, this, h, List.count_cons_self]
    · next h =>
      rw [List.count_cons_of_ne h]
      split
      · next he => rw [he] at this; simp at this
      · next z zs he => rw [he] at this; simpa using this
theorem infoS9 : (Tryd.prog.info? 9).map (fun i => (i.zero, i.size, i.bytes)) = some (some (.string ByteArray.empty), 1, 16) := by kernel_rfl
theorem count_size (c : UInt8) (s : ByteArray) : Lib.countB s ⟨#[c]⟩ = (bs s).count c := Lib.count_one c (bs s)
theorem split_pieces (c : UInt8) (s : ByteArray) : (Lib.splitB ⟨#[c]⟩ 0 (Lib.countB s ⟨#[c]⟩) s).map Value.string = strs (sp c (bs s)) := by
  have h := Lib.splitB_data ⟨#[c]⟩ 0 (Lib.countB s ⟨#[c]⟩) s
  have h2 : Lib.splitK [c] 0 (Lib.countB s ⟨#[c]⟩) (bs s) = sp c (bs s) := splitK_sp c _ _ (by rw [count_size]; exact Nat.le_refl _)
  have h3 : (Lib.splitB ⟨#[c]⟩ 0 (Lib.countB s ⟨#[c]⟩) s).map bs = sp c (bs s) := h.trans h2
  unfold strs
  rw [← h3, List.map_map]
  congr 1
set_option maxRecDepth 100000 in
theorem gensplit_any (s : ByteArray) (c : UInt8) (w : World) (hs : s.size < 4294967281) :
    Calls Tryd.prog 76 #[.string s, .string ⟨#[c]⟩, .int .i64 0, .int .i64 (-1)] w fun e w' => e = .returned (.slice (some ⟨w.heap.size, 0, none⟩) ((bs s).count c + 1) ((bs s).count c + 1)) ∧ w' = w.alloc (.cells (strs (sp c (bs s))).toArray 9) := by
  have hle := Lib.countB_le ⟨#[c]⟩ (show 1 ≤ (⟨#[c]⟩ : ByteArray).size from Nat.le_refl _) s.size s (Nat.le_refl _)
  have hlen := Lib.splitB_all ⟨#[c]⟩ (show 1 ≤ (⟨#[c]⟩ : ByteArray).size from Nat.le_refl _) 0 _ s rfl
  have h := Any.strings_genSplit_core (L := { Tryd.lays146 with }) infoS9 s ⟨#[c]⟩ 0 (-1) (Lib.countB s ⟨#[c]⟩ + 1) w hs (Nat.le_refl _) (Nat.zero_le _)
    (fun x cs hx => by
      have := Any.strings_Index_one (L := { Tryd.lays146 with }) x c (w.alloc (.cells cs (Tryd.lays146_ren.t 9)))
      refine this.mono ?_
      rintro e w' ⟨rfl, rfl⟩
      exact ⟨by rw [← Lib.index_one], rfl⟩)
    (by
      refine (Any.strings_Count_one (L := { Tryd.lays146 with }) s c w).mono ?_
      rintro e w' ⟨rfl, rfl⟩
      exact ⟨by rw [count_size]; rfl, rfl⟩) (by decide) (by decide) (by rw [if_pos (by decide)]; omega)
  rw [Nat.add_sub_cancel, hlen] at h
  have e2 : Lib.cellsOf (Lib.splitB ⟨#[c]⟩ 0 (Lib.countB s ⟨#[c]⟩) s) (Lib.countB s ⟨#[c]⟩ + 1) = ((Lib.splitB ⟨#[c]⟩ 0 (Lib.countB s ⟨#[c]⟩) s).map Value.string).toArray := by rw [← hlen]; exact Lib.cellsOf_full _
  rw [e2, split_pieces, count_size] at h
  exact h
theorem split_any (s : ByteArray) (c : UInt8) (w : World) (hs : s.size < 4294967281) :
    Calls Tryd.prog 59 #[.string s, .string ⟨#[c]⟩] w fun e w' => e = .returned (.slice (some ⟨w.heap.size, 0, none⟩) ((bs s).count c + 1) ((bs s).count c + 1)) ∧ w' = w.alloc (.cells (strs (sp c (bs s))).toArray 9) := by
  have hG := Lib.hid (fun w => gensplit_any s c w hs)
  generalize (bs s).count c + 1 = n at *
  generalize (strs (sp c (bs s))).toArray = cs at *
  go_enter Tryd.func59, Tryd.ntmps59
  go_wp2_with fail
  refine (hG.out _).mono ?_
  rintro e w1 ⟨rfl, rfl⟩
  go_wp2
  go_ret
  exact ⟨rfl, rfl⟩
end Go.Proofs.YtemlnmelicnneaaDoor
