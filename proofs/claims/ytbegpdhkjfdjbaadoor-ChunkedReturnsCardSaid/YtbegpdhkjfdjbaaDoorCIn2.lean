/-
  Fields that came in.
-/
import Derived.Test.YtbegpdhkjfdjbaaDoorCIn
import Derived.Test.YtbegpdhkjfdjbaaDoorPairs
namespace Go.Proofs.YtbegpdhkjfdjbaaDoor
open Go.ChangeShapes Go.WideShapes Go.RowKit

def bytesV : Value → List UInt8
  | .string s => bs s
  | _ => []
/-- A slice of pairs of texts, from its cell. -/
theorem pairs_cells {H : Type} {enc : TypeId × Value → H} {W : World} {fuel : Nat} {v : Value} {x : DataW H × List MemPlace}
    (hf : DataW.trod enc Tryd.prog W 0 (fun _ => true) true fuel 27 [v] = some x) (hw : ∀ n ∈ x.1.weights Tryd.prog 27, n ≤ reachBytes) :
    ∃ l : List (List UInt8 × List UInt8), Rd W 2 v l.length (prs l) ∧ (∀ p ∈ l, p.1.length ≤ 140737488355328 ∧ p.2.length ≤ 140737488355328) ∧ l.length ≤ 140737488355328 := by
  rcases Go.Deep.open_slice_pairs Tryd.underlying27 Tryd.underlying63 (by kernel_rfl) rfl rfl (by kernel_rfl) (by kernel_rfl) hf with ⟨hcs, _⟩ | ⟨a, LEN, c, m, fu, V0, V1, D0, D1, P0, P1, hcs, _, hl, hm, hmm, hx, hcell⟩
  · obtain rfl : v = .slice none 0 0 := by simpa using hcs
    exact ⟨[], Rd.nil W 2, by simp, by simp⟩
  · obtain rfl : v = .slice (some a) LEN c := by simpa using hcs
    have hnm : LEN ≤ m := by rw [hmm]; simp; omega
    have each : ∀ i, i < LEN → ∃ x y : ByteArray, V0 i = .string x ∧ V1 i = .string y ∧ D0 i = .lit (.string x.data.toList) ∧ D1 i = .lit (.string y.data.toList) := fun i hi => by
      obtain ⟨-, -, t0, t1⟩ := hcell i (by omega)
      obtain ⟨x, hx1, hx2, -⟩ := DataW.trod_string Tryd.underlying9 t0
      obtain ⟨y, hy1, hy2, -⟩ := DataW.trod_string Tryd.underlying9 t1
      simp only [Prod.mk.injEq] at hx2 hy2
      exact ⟨x, y, by simpa using hx1, by simpa using hy1, hx2.1, hy2.1⟩
    have hd : x.1 = .slice ((List.range LEN).map fun i => .agg [D0 i, D1 i]) ((List.range (m - LEN)).map fun j => .agg [D0 (LEN + j), D1 (LEN + j)]) := congrArg Prod.fst hx
    rw [hd] at hw
    have hlen : ((List.range LEN).map fun i => (bytesV (V0 i), bytesV (V1 i))).length = LEN := by simp
    refine ⟨(List.range LEN).map fun i => (bytesV (V0 i), bytesV (V1 i)), ?_, ?_, ?_⟩
    · rw [hlen]
      refine ⟨_, _, rfl, hl, by rw [prs_length, hlen], fun hn => ?_⟩
      have ha : a = ⟨a.block, a.off, none⟩ := by
        have h0 := (hcell 0 (by omega)).1
        have : a.add (0 * 2) = a := by unfold Addr.add; simp
        rw [this] at h0
        exact cell_plain h0
      refine ⟨a.block, a.off, congrArg some ha, cell_lt (a := a.add (0 * 2)) (hcell 0 (by omega)).1 |> fun h => by simpa [Addr.add] using h, fun j u hu => ?_⟩
      have hj : j / 2 < LEN := by
        rcases Nat.lt_or_ge (j / 2) LEN with h | h
        · exact h
        · rw [List.getElem?_eq_none (by rw [prs_length, hlen]; omega)] at hu; cases hu
      have hj2 : j / 2 < ((List.range LEN).map fun i => (bytesV (V0 i), bytesV (V1 i))).length := by rw [hlen]; exact hj
      obtain ⟨x, y, e0, e1, -, -⟩ := each (j / 2) hj
      obtain ⟨c0, c1, -, -⟩ := hcell (j / 2) (by omega)
      rw [ha, add_flat] at c0 c1
      rcases Nat.mod_two_eq_zero_or_one j with hr | hr
      · have ej : j = j / 2 * 2 := by omega
        rw [ej, prs_at0 hj2] at hu
        simp only [List.getElem_map, List.getElem_range] at hu
        rw [ej, c0, ← hu, e0]
        show some (Value.string x) = some (.string (str (bs x)))
        rw [str_bs]
      · have ej : j = j / 2 * 2 + 1 := by omega
        rw [ej, prs_at1 hj2] at hu
        simp only [List.getElem_map, List.getElem_range] at hu
        rw [ej, c1, ← hu, e1]
        show some (Value.string y) = some (.string (str (bs y)))
        rw [str_bs]
    · intro p hp
      rw [List.mem_map] at hp
      obtain ⟨i, hi, rfl⟩ := hp
      rw [List.mem_range] at hi
      obtain ⟨x, y, e0, e1, f0, f1⟩ := each i hi
      have hmem : DataW.agg (H := H) [D0 i, D1 i] ∈ (List.range LEN).map fun i => DataW.agg [D0 i, D1 i] := List.mem_map.2 ⟨i, List.mem_range.2 hi, rfl⟩
      have hwa : DataW.weights Tryd.prog 63 (DataW.agg (H := H) [D0 i, D1 i]) = [x.data.toList.length, y.data.toList.length] := by
        rw [f0, f1]; simp [DataW.weights, Tryd.underlying63, DataW.weightsEach]
      have hin : ∀ n, n ∈ [x.data.toList.length, y.data.toList.length] → n ≤ reachBytes := fun n hn => by
        refine hw n ?_
        simp only [DataW.weights, Tryd.underlying27, List.mem_cons, List.mem_append]
        exact .inr (.inl (weights_all hmem (by rw [hwa]; exact hn)))
      have r1 := hin x.data.toList.length (by simp)
      have r2 := hin y.data.toList.length (by simp)
      have hre : reachBytes ≤ 140737488355328 := by decide
      show (bytesV (V0 i)).length ≤ _ ∧ (bytesV (V1 i)).length ≤ _
      rw [e0, e1]
      exact ⟨Nat.le_trans r1 hre, Nat.le_trans r2 hre⟩
    · rw [hlen]
      have hh := hw ((((List.range LEN).map fun i => DataW.agg (H := H) [D0 i, D1 i]).length + ((List.range (m - LEN)).map fun j => DataW.agg (H := H) [D0 (LEN + j), D1 (LEN + j)]).length) * Tryd.prog.bytesOf 63) (by simp only [DataW.weights, Tryd.underlying27, List.mem_cons, true_or])
      rw [show Tryd.prog.bytesOf 63 = 32 from by kernel_rfl] at hh
      simp only [List.length_map, List.length_range] at hh
      have hre : reachBytes ≤ 140737488355328 := by decide
      omega
set_option maxRecDepth 100000 in
theorem flds_in {H : Type} {enc : TypeId × Value → H} {W : World} {base : Nat} {v : Value} {d : DataW H} {ps : List MemPlace}
    (hv : Value.okWide Tryd.prog W .any base 27 v) (h : DataW.Trod enc Tryd.prog W 0 (fun _ => true) true 27 v d ps) (hw : ∀ n ∈ d.weights Tryd.prog 27, n ≤ reachBytes) :
    ∃ l : List (List UInt8 × List UInt8), Rd W 2 v l.length (prs l) ∧ (∀ p ∈ l, p.1.length ≤ 140737488355328 ∧ p.2.length ≤ 140737488355328) ∧ l.length ≤ 140737488355328 := by
  obtain ⟨A, len, cap, rfl⟩ := okWide_slice Tryd.underlying27 hv
  obtain ⟨fuel, hf⟩ := h
  exact pairs_cells (x := (d, ps)) hf hw
end Go.Proofs.YtbegpdhkjfdjbaaDoor
