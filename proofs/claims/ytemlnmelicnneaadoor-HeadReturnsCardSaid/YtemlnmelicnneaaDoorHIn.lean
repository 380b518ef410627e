/-
  Requests and responses that came in.
-/
import Derived.Test.YtemlnmelicnneaaDoorGLow
import Derived.Deep.SlicePairs
import Derived.Deep.Strs
import Derived.SizedLaws
import Derived.ShutString
import Derived.ChangeOld
import Derived.Below
namespace Go.Proofs.YtemlnmelicnneaaDoor
open Go.ChangeShapes Go.WideShapes Go.RowKit Syn

theorem cell_plain {w : World} {a : Addr} {v : Value} (h : w.cell? a = some v) : a = ⟨a.block, a.off, none⟩ := by
  have := World.cell?_spot h
  cases a
  simp_all
theorem add_flat (b o i : Nat) : (⟨b, o, none⟩ : Addr).add i = ⟨b, o + i, none⟩ := by unfold Addr.add; split <;> simp_all
theorem weights_all {H : Type} {P : Program} {e : TypeId} {d : DataW H} {n : Nat} : ∀ {l : List (DataW H)}, d ∈ l → n ∈ d.weights P e → n ∈ DataW.weightsAll P e l
  | x :: l, h, hn => by
    simp only [DataW.weightsAll, List.mem_append]
    rcases List.mem_cons.1 h with rfl | h
    · exact .inl hn
    · exact .inr (weights_all h hn)
def bytesV : Value → List UInt8
  | .string s => bs s
  | _ => []
/-- A slice of pairs of texts, from its cell. -/
theorem pairs_cells {H : Type} {enc : TypeId × Value → H} {W : World} {fuel : Nat} {v : Value} {x : DataW H × List MemPlace}
    (hf : DataW.trod enc Tryd.prog W 0 (fun _ => true) true fuel 22 [v] = some x) (hw : ∀ n ∈ x.1.weights Tryd.prog 22, n ≤ reachBytes) :
    ∃ l : List (List UInt8 × List UInt8), Rd W 2 v l.length (prs l) ∧ (∀ p ∈ l, p.1.length ≤ 140737488355328 ∧ p.2.length ≤ 140737488355328) ∧ l.length ≤ 140737488355328 := by
  rcases Go.Deep.open_slice_pairs Tryd.underlying22 Tryd.underlying62 (by kernel_rfl) rfl rfl (by kernel_rfl) (by kernel_rfl) hf with ⟨hcs, _⟩ | ⟨a, LEN, c, m, fu, V0, V1, D0, D1, P0, P1, hcs, _, hl, hm, hmm, hx, hcell⟩
  · obtain rfl : v = .slice none 0 0 := by simpa using hcs
    exact ⟨[], Rd.nil W 2, by simp, by simp⟩
  · obtain rfl : v = .slice (some a) LEN c := by simpa using hcs
    have hnm : LEN ≤ m := by rw [hmm]; simp; omega
    have each : ∀ i, i < LEN → ∃ x y : ByteArray, V0 i = .string x ∧ V1 i = .string y ∧ D0 i = .lit (.string x.data.toList) ∧ D1 i = .lit (.string y.data.toList) := fun i hi => by
      obtain ⟨-, -, t0, t1⟩ := hcell i (by omega)
      obtain ⟨x, hx1, hx2, -⟩ := DataW.trod_string Tryd.underlying9 t0
      obtain ⟨y, hy1, hy2, -⟩ := DataW.trod_string Tryd.underlying9 t1
      simp only [Prod.mk.injEq] at hx2 hy2
      exact ⟨x, y, by simpa using hx1, by simpa using hy1, hx2.1, hy2.1⟩
    have hd : x.1 = .slice ((List.range LEN).map fun i => .agg [D0 i, D1 i]) ((List.range (m - LEN)).map fun j => .agg [D0 (LEN + j), D1 (LEN + j)]) := congrArg Prod.fst hx
    rw [hd] at hw
    have hlen : ((List.range LEN).map fun i => (bytesV (V0 i), bytesV (V1 i))).length = LEN := by simp
    refine ⟨(List.range LEN).map fun i => (bytesV (V0 i), bytesV (V1 i)), ?_, ?_, ?_⟩
    · rw [hlen]
      refine ⟨_, _, rfl, hl, by rw [prs_length, hlen], fun hn => ?_⟩
      have ha : a = ⟨a.block, a.off, none⟩ := by
        have h0 := (hcell 0 (by omega)).1
        have : a.add (0 * 2) = a := by unfold Addr.add; simp
        rw [this] at h0
        exact cell_plain h0
      refine ⟨a.block, a.off, congrArg some ha, cell_lt (a := a.add (0 * 2)) (hcell 0 (by omega)).1 |> fun h => by simpa [Addr.add] using h, fun j u hu => ?_⟩
      have hj : j / 2 < LEN := by
        rcases Nat.lt_or_ge (j / 2) LEN with h | h
        · exact h
        · rw [List.getElem?_eq_none (by rw [prs_length, hlen]; omega)] at hu; cases hu
      have hj2 : j / 2 < ((List.range LEN).map fun i => (bytesV (V0 i), bytesV (V1 i))).length := by rw [hlen]; exact hj
      obtain ⟨x, y, e0, e1, -, -⟩ := each (j / 2) hj
      obtain ⟨c0, c1, -, -⟩ := hcell (j / 2) (by omega)
      rw [ha, add_flat] at c0 c1
      rcases Nat.mod_two_eq_zero_or_one j with hr | hr
      · have ej : j = j / 2 * 2 := by omega
        rw [ej, prs_at0 hj2] at hu
        simp only [List.getElem_map, List.getElem_range] at hu
        rw [ej, c0, ← hu, e0]
        show some (Value.string x) = some (.string (str (bs x)))
        rw [str_bs]
      · have ej : j = j / 2 * 2 + 1 := by omega
        rw [ej, prs_at1 hj2] at hu
        simp only [List.getElem_map, List.getElem_range] at hu
        rw [ej, c1, ← hu, e1]
        show some (Value.string y) = some (.string (str (bs y)))
        rw [str_bs]
    · intro p hp
      rw [List.mem_map] at hp
      obtain ⟨i, hi, rfl⟩ := hp
      rw [List.mem_range] at hi
      obtain ⟨x, y, e0, e1, f0, f1⟩ := each i hi
      have hmem : DataW.agg (H := H) [D0 i, D1 i] ∈ (List.range LEN).map fun i => DataW.agg [D0 i, D1 i] := List.mem_map.2 ⟨i, List.mem_range.2 hi, rfl⟩
      have hwa : DataW.weights Tryd.prog 62 (DataW.agg (H := H) [D0 i, D1 i]) = [x.data.toList.length, y.data.toList.length] := by
        rw [f0, f1]; simp [DataW.weights, Tryd.underlying62, DataW.weightsEach]
      have hin : ∀ n, n ∈ [x.data.toList.length, y.data.toList.length] → n ≤ reachBytes := fun n hn => by
        refine hw n ?_
        simp only [DataW.weights, Tryd.underlying22, List.mem_cons, List.mem_append]
        exact .inr (.inl (weights_all hmem (by rw [hwa]; exact hn)))
      have r1 := hin x.data.toList.length (by simp)
      have r2 := hin y.data.toList.length (by simp)
      have hre : reachBytes ≤ 140737488355328 := by decide
      show (bytesV (V0 i)).length ≤ _ ∧ (bytesV (V1 i)).length ≤ _
      rw [e0, e1]
      exact ⟨Nat.le_trans r1 hre, Nat.le_trans r2 hre⟩
    · rw [hlen]
      have hh := hw ((((List.range LEN).map fun i => DataW.agg (H := H) [D0 i, D1 i]).length + ((List.range (m - LEN)).map fun j => DataW.agg (H := H) [D0 (LEN + j), D1 (LEN + j)]).length) * Tryd.prog.bytesOf 62) (by simp only [DataW.weights, Tryd.underlying22, List.mem_cons, true_or])
      rw [show Tryd.prog.bytesOf 62 = 32 from by kernel_rfl] at hh
      simp only [List.length_map, List.length_range] at hh
      have hre : reachBytes ≤ 140737488355328 := by decide
      omega
set_option maxRecDepth 100000 in
theorem req_in {H : Type} {enc : TypeId × Value → H} {W : World} {base : Nat} {v : Value} {d : DataW H} {ps : List MemPlace}
    (hv : Value.okWide Tryd.prog W .any base 43 v) (h : DataW.Trod enc Tryd.prog W 0 (fun _ => true) true 43 v d ps) (hw : ∀ n ∈ d.weights Tryd.prog 43, n ≤ reachBytes) :
    ∃ (m t : ByteArray) (sv : Value) (L : List (List UInt8 × List UInt8)), v = .agg #[.string m, .string t, sv] ∧ Rd W 2 sv L.length (prs L) ∧ (∀ p ∈ L, p.1.length ≤ 140737488355328 ∧ p.2.length ≤ 140737488355328) ∧ L.length ≤ 140737488355328 := by
  obtain ⟨cs, rfl, hsz⟩ := okWide_struct Tryd.underlying43 hv
  have hs3 : cs.size = 3 := hsz.trans (by kernel_rfl)
  obtain ⟨fuel, hf⟩ := h
  have hf' : DataW.trod enc Tryd.prog W 0 (fun _ => true) true fuel 43 cs.toList = some (d, ps) := hf
  obtain ⟨y0, y1, y2, n, hx, hl, h0, h1, h2⟩ := Go.Deep.trod_struct3 Tryd.underlying43 hf'
  obtain ⟨c0, c1, c2, rfl⟩ : ∃ c0 c1 c2, cs = #[c0, c1, c2] := by
    match cs, hs3 with
    | ⟨[a, b, c]⟩, _ => exact ⟨a, b, c, rfl⟩
  have h0' : DataW.trod enc Tryd.prog W 0 (fun _ => true) true n 9 [c0] = some y0 := h0
  have h1' : DataW.trod enc Tryd.prog W 0 (fun _ => true) true n 9 [c1] = some y1 := h1
  have h2' : DataW.trod enc Tryd.prog W 0 (fun _ => true) true n 22 [c2] = some y2 := h2
  obtain ⟨m, hm, -, -⟩ := DataW.trod_string Tryd.underlying9 h0'
  obtain ⟨t, ht, -, -⟩ := DataW.trod_string Tryd.underlying9 h1'
  obtain rfl : c0 = .string m := by simpa using hm
  obtain rfl : c1 = .string t := by simpa using ht
  have hd : d = .agg [y0.1, y1.1, y2.1] := congrArg Prod.fst hx
  have hw2 : ∀ n ∈ y2.1.weights Tryd.prog 22, n ≤ reachBytes := fun n hn => hw n (by
    rw [hd]
    simp only [DataW.weights, Tryd.underlying43]
    exact DataW.weights_mem_each (j := 2) rfl rfl n hn)
  obtain ⟨L, R0, B0, N0⟩ := pairs_cells h2' hw2
  exact ⟨m, t, c2, L, rfl, R0, B0, N0⟩
set_option maxRecDepth 100000 in
theorem resp_in {H : Type} {enc : TypeId × Value → H} {W : World} {base : Nat} {v : Value} {d : DataW H} {ps : List MemPlace}
    (hv : Value.okWide Tryd.prog W .any base 24 v) (h : DataW.Trod enc Tryd.prog W 0 (fun _ => true) true 24 v d ps) (hw : ∀ n ∈ d.weights Tryd.prog 24, n ≤ reachBytes) :
    ∃ (z : Int) (sv : Value) (L : List (List UInt8 × List UInt8)), v = .agg #[.int .i64 z, sv] ∧ Rd W 2 sv L.length (prs L) ∧ (∀ p ∈ L, p.1.length ≤ 140737488355328 ∧ p.2.length ≤ 140737488355328) ∧ L.length ≤ 140737488355328 ∧ (Lit.int .i64 z).wf = true := by
  obtain ⟨cs, rfl, hsz⟩ := okWide_struct Tryd.underlying24 hv
  have hs2 : cs.size = 2 := hsz.trans (by kernel_rfl)
  obtain ⟨fuel, hf⟩ := h
  have hf' : DataW.trod enc Tryd.prog W 0 (fun _ => true) true fuel 24 cs.toList = some (d, ps) := hf
  obtain ⟨y0, y1, n, hx, hl, h0, h1⟩ := trod_struct2 Tryd.underlying24 hf'
  obtain ⟨c0, c1, rfl⟩ : ∃ c0 c1, cs = #[c0, c1] := by
    match cs, hs2 with
    | ⟨[a, b]⟩, _ => exact ⟨a, b, rfl⟩
  have h0' : DataW.trod enc Tryd.prog W 0 (fun _ => true) true n 3 [c0] = some y0 := h0
  have h1' : DataW.trod enc Tryd.prog W 0 (fun _ => true) true n 22 [c1] = some y1 := h1
  obtain ⟨z, hm, -, hz⟩ := DataW.trod_int Tryd.underlying3 h0'
  obtain rfl : c0 = .int .i64 z := by simpa using hm
  have hd : d = .agg [y0.1, y1.1] := congrArg Prod.fst hx
  have hw2 : ∀ n ∈ y1.1.weights Tryd.prog 22, n ≤ reachBytes := fun n hn => hw n (by
    rw [hd]
    simp only [DataW.weights, Tryd.underlying24]
    exact DataW.weights_mem_each (j := 1) rfl rfl n hn)
  obtain ⟨L, R0, B0, N0⟩ := pairs_cells h1' hw2
  exact ⟨z, c1, L, rfl, R0, B0, N0, hz⟩
end Go.Proofs.YtemlnmelicnneaaDoor
