/-
  A slice of texts that came in.
-/
import Derived.Test.YtjffffpfejmoiaaGreatDoorGLow
import Derived.Test.YtjffffpfejmoiaaGreatDoorCIn
import Derived.Deep.SlicePairs
import Derived.Deep.Strs
import Derived.SizedLaws
import Derived.ShutString
import Derived.ChangeOld
import Derived.Below
namespace Go.Proofs.YtjffffpfejmoiaaGreatDoor
open Go.ChangeShapes Go.WideShapes Go.RowKit

set_option maxRecDepth 100000 in
theorem texts_in2 {H : Type} {enc : TypeId × Value → H} {W : World} {base : Nat} {v : Value} {d : DataW H} {ps : List MemPlace}
    (hv : Value.okWide Tryz.prog W .any base 22 v) (h : DataW.Trod enc Tryz.prog W 0 (fun _ => true) true 22 v d ps) (hw : ∀ n ∈ d.weights Tryz.prog 22, n ≤ reachBytes) :
    ∃ ts : List (List UInt8), Rd W 1 v ts.length (strs ts) ∧ (∀ t ∈ ts, t.length ≤ 140737488355328) ∧ ts.length ≤ 140737488355328 := by
  obtain ⟨A, len, cap, rfl⟩ := okWide_slice Tryz.underlying22 hv
  obtain ⟨fuel, hf⟩ := h
  rcases Go.Deep.open_strs Tryz.underlying22 Tryz.underlying9 (by kernel_rfl) hf with ⟨hcs, _⟩ | ⟨a, n, c, m, Sx, hcs, _, hl, hm, hmm, hx, hcell⟩
  · simp [Value.cells] at hcs
    obtain ⟨rfl, rfl, rfl⟩ := hcs
    exact ⟨[], Rd.nil W 1, by simp, by simp⟩
  · simp [Value.cells] at hcs
    obtain ⟨rfl, rfl, rfl⟩ := hcs
    have hnm : len ≤ m := by rw [hmm]; simp; omega
    have hd : d = .slice ((List.range len).map fun i => .lit (.string (Sx i).data.toList)) ((List.range (m - len)).map fun j => .lit (.string (Sx (len + j)).data.toList)) := congrArg Prod.fst hx
    subst hd
    refine ⟨(List.range len).map fun i => bs (Sx i), ?_, ?_, ?_⟩
    · have hL : ((List.range len).map fun i => bs (Sx i)).length = len := by simp
      rw [hL]
      refine ⟨_, _, rfl, hl, by simp [strs], fun hn => ?_⟩
      have ha : a = ⟨a.block, a.off, none⟩ := by
        have h0 := (hcell 0 (by omega)).1
        have : a.add 0 = a := by unfold Addr.add; simp
        rw [this] at h0
        exact cell_plain h0
      refine ⟨a.block, a.off, congrArg some ha, cell_lt (a := a.add 0) (hcell 0 (by omega)).1 |> fun h => by simpa [Addr.add] using h, fun j u hu => ?_⟩
      have hj : j < len := by
        rcases Nat.lt_or_ge j len with h | h
        · exact h
        · rw [List.getElem?_eq_none (by simp [strs]; omega)] at hu; cases hu
      have h1 := (hcell j (by omega)).1
      rw [ha, add_flat] at h1
      rw [h1, ← hu]
      simp [strs, hj, str_bs]
    · intro t ht
      rw [List.mem_map] at ht
      obtain ⟨i, hi, rfl⟩ := ht
      have hmem : DataW.lit (H := H) (.string (Sx i).data.toList) ∈ (List.range len).map fun i => DataW.lit (.string (Sx i).data.toList) := List.mem_map.2 ⟨i, hi, rfl⟩
      have hin := hw (Sx i).data.toList.length (by
        simp only [DataW.weights, Tryz.underlying22, List.mem_cons, List.mem_append]
        exact .inr (.inl (weights_all hmem (by simp [DataW.weights]))))
      have hre : reachBytes ≤ 140737488355328 := by decide
      show (Sx i).data.toList.length ≤ _
      omega
    · have hh := hw ((((List.range len).map fun i => DataW.lit (H := H) (.string (Sx i).data.toList)).length + ((List.range (m - len)).map fun j => DataW.lit (H := H) (.string (Sx (len + j)).data.toList)).length) * Tryz.prog.bytesOf 9) (by simp only [DataW.weights, Tryz.underlying22, List.mem_cons, true_or])
      rw [show Tryz.prog.bytesOf 9 = 16 from by kernel_rfl] at hh
      simp only [List.length_map, List.length_range] at hh ⊢
      have hre : reachBytes ≤ 140737488355328 := by decide
      omega
end Go.Proofs.YtjffffpfejmoiaaGreatDoor
