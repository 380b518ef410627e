/-
  A slice of bytes that came in (within the bulk's bound).
-/
import Derived.Test.YtkcipebpknapkaaGreatDoorTPathsW
import Derived.Test.YtkcipebpknapkaaGreatDoorTCaseIn
namespace Go.Proofs.YtkcipebpknapkaaGreatDoor.tiIn
open Go.ChangeShapes Go.WideShapes Go.ChangeAt Go.RowKit Syn Ti Rg
set_option maxRecDepth 100000 in
theorem u8s_in {H : Type} {enc : TypeId × Value → H} {W : World} {base : Nat} {v : Value} {d : DataW H} {ps : List MemPlace}
    (hv : Value.okWide Tryz.prog W .any base 42 v) (h : DataW.Trod enc Tryz.prog W 0 (fun _ => true) true 42 v d ps) (hb : Rows.uptoBulk d ≤ 1048576) :
    ∃ zs : List Int, Rd W 1 v zs.length (u8t zs) ∧ (∀ z ∈ zs, 0 ≤ z ∧ z ≤ 255) ∧ zs.length ≤ 1048576 := by
  obtain ⟨A, len, cap, rfl⟩ := okWide_slice Tryz.underlying42 hv
  obtain ⟨fuel, hf⟩ := h
  rcases open_ints Tryz.underlying42 Tryz.underlying5 (by kernel_rfl) hf with ⟨hcs, _⟩ | ⟨a, n, c, zs, hcs, _, hl, hm, hz, hx, hcell, hwf⟩
  · simp [Value.cells] at hcs
    obtain ⟨rfl, rfl, rfl⟩ := hcs
    exact ⟨[], Rd.nil W 1, by simp, by simp⟩
  · simp [Value.cells] at hcs
    obtain ⟨rfl, rfl, rfl⟩ := hcs
    have hnm : len ≤ zs.length := by rw [hz]; simp; omega
    have hd : d = .slice (lits .u8 (zs.take len)) (lits .u8 (zs.drop len)) := congrArg Prod.fst hx
    subst hd
    have hL : (zs.take len).length = len := by rw [List.length_take]; omega
    refine ⟨zs.take len, ?_, ?_, ?_⟩
    · rw [hL]
      refine ⟨_, _, rfl, hl, by simp [u8t]; omega, fun hn => ?_⟩
      have ha : a = ⟨a.block, a.off, none⟩ := by
        have h0 := hcell 0 (by omega)
        have : a.add 0 = a := by unfold Addr.add; simp
        rw [this] at h0
        exact cell_plain h0
      refine ⟨a.block, a.off, congrArg some ha, cell_lt (a := a.add 0) (hcell 0 (by omega)) |> fun h => by simpa [Addr.add] using h, fun j u hu => ?_⟩
      have hj : j < len := by
        rcases Nat.lt_or_ge j len with h | h
        · exact h
        · rw [List.getElem?_eq_none (by simp [u8t]; omega)] at hu; cases hu
      have h1 := hcell j (by omega)
      rw [ha, add_flat] at h1
      rw [h1]
      have hj2 : j < (zs.take len).length := by omega
      rw [u8t_at hj2] at hu
      rw [← hu, List.getElem_take, List.getD_eq_getElem?_getD, List.getElem?_eq_getElem (by omega)]; rfl
    · intro z hz'
      exact Go.bounds_u8 (hwf z (List.mem_of_mem_take hz'))
    · rw [hL]
      have h1 := length_le (lits (H := H) .u8 (zs.take len))
      simp only [Rows.uptoBulk] at hb
      have h2 : (lits (H := H) .u8 (zs.take len)).length = len := by simp [lits]; omega
      omega
end Go.Proofs.YtkcipebpknapkaaGreatDoor.tiIn
