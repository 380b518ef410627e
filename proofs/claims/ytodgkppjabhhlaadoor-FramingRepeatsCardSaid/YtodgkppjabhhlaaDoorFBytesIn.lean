/-
  A slice of bytes that came in.
-/
import Derived.Test.YtodgkppjabhhlaaDoorFReqIn
import Derived.Test.YtodgkppjabhhlaaDoorFRepWalk
namespace Go.Proofs.YtodgkppjabhhlaaDoor
open Go.ChangeShapes Go.WideShapes Go.RowKit Syn Fr

set_option maxRecDepth 100000 in
/-- A slice of bytes that came in. -/
theorem bytes_in {H : Type} {enc : TypeId × Value → H} {W : World} {base : Nat} {v : Value} {d : DataW H} {ps : List MemPlace}
    (hv : Value.okWide Tryd.prog W .any base 45 v) (h : DataW.Trod enc Tryd.prog W 0 (fun _ => true) true 45 v d ps) :
    ∃ zs : List Int, Rd W 1 v zs.length (u8i zs) ∧ (∀ z ∈ zs, 0 ≤ z ∧ z ≤ 255) ∧ zs.length ≤ 9223372036854775807 := by
  obtain ⟨A, len, cap, rfl⟩ := okWide_slice Tryd.underlying45 hv
  obtain ⟨fuel, hf⟩ := h
  rcases open_ints Tryd.underlying45 Tryd.underlying5 (by kernel_rfl) hf with ⟨hcs, _⟩ | ⟨a, n, c, zs, hcs, _, hl, hm, hz, hx, hcell, hwf⟩
  · simp [Value.cells] at hcs
    obtain ⟨rfl, rfl, rfl⟩ := hcs
    exact ⟨[], Rd.nil W 1, by simp, by simp⟩
  · simp [Value.cells] at hcs
    obtain ⟨rfl, rfl, rfl⟩ := hcs
    have hnm : len ≤ zs.length := by rw [hz]; simp; omega
    have hd : d = .slice (lits .u8 (zs.take len)) (lits .u8 (zs.drop len)) := congrArg Prod.fst hx
    subst hd
    have hL : (zs.take len).length = len := by rw [List.length_take]; omega
    refine ⟨zs.take len, ?_, ?_, ?_⟩
    · rw [hL]
      refine ⟨_, _, rfl, hl, by simp [u8i]; omega, fun hn => ?_⟩
      have ha : a = ⟨a.block, a.off, none⟩ := by
        have h0 := hcell 0 (by omega)
        have : a.add 0 = a := by unfold Addr.add; simp
        rw [this] at h0
        exact cell_plain h0
      refine ⟨a.block, a.off, congrArg some ha, cell_lt (a := a.add 0) (hcell 0 (by omega)) |> fun h => by simpa [Addr.add] using h, fun j u hu => ?_⟩
      have hj : j < len := by
        rcases Nat.lt_or_ge j len with h | h
        · exact h
        · rw [List.getElem?_eq_none (by simp [u8i]; omega)] at hu; cases hu
      have h1 := hcell j (by omega)
      rw [ha, add_flat] at h1
      rw [h1]
      have hj2 : j < (zs.take len).length := by omega
      rw [u8i_at hj2] at hu
      rw [← hu, List.getElem_take, List.getD_eq_getElem?_getD, List.getElem?_eq_getElem (by omega)]; rfl
    · intro z hz'
      exact Go.bounds_u8 (hwf z (List.mem_of_mem_take hz'))
    · rw [hL]
      have hre : maxLen = 9223372036854775807 := by decide
      omega
theorem repeats_walk_int (x y : Int) (zs : List Int) (v : Value) (w : World) (hx : (Lit.int .u32 x).wf = true) (hy : (Lit.int .u32 y).wf = true) (hR : Rd w 1 v zs.length (u8i zs)) (hz : ∀ z ∈ zs, 0 ≤ z ∧ z ≤ 255) (hzm : zs.length ≤ 9223372036854775807) :
    Calls Tryd.prog 4 #[.int .u32 x, v, .int .u32 y] w fun e w' => e = .returned (.bool true) ∧ Below w.heap.size w w' := by
  have hx' : 0 ≤ x ∧ x ≤ 4294967295 := by
    unfold Lit.wf at hx
    rw [Bool.and_eq_true, decide_eq_true_eq, decide_eq_true_eq] at hx
    exact hx
  have hy' : 0 ≤ y ∧ y ≤ 4294967295 := by
    unfold Lit.wf at hy
    rw [Bool.and_eq_true, decide_eq_true_eq, decide_eq_true_eq] at hy
    exact hy
  obtain ⟨a, rfl⟩ : ∃ a : Nat, x = (a : Int) := ⟨x.toNat, by omega⟩
  obtain ⟨b, rfl⟩ : ∃ b : Nat, y = (b : Int) := ⟨y.toNat, by omega⟩
  exact repeats_walk a b zs v w (by omega) (by omega) hR hz hzm
end Go.Proofs.YtodgkppjabhhlaaDoor
