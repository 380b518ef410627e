/-
  The two texts of a request that came in are no longer than the reach.
-/
import Derived.Test.YtemlnmelicnneaaDoorHIn
namespace Go.Proofs.YtemlnmelicnneaaDoor
open Go.ChangeShapes Go.WideShapes Go.RowKit Syn

theorem str_weight {H : Type} {enc : TypeId × Value → H} {W : World} {n : Nat} {c : Value} {y : DataW H × List MemPlace} (h : DataW.trod enc Tryd.prog W 0 (fun _ => true) true n 9 [c] = some y) (hw : ∀ n ∈ y.1.weights Tryd.prog 9, n ≤ reachBytes) :
    ∃ m : ByteArray, c = .string m ∧ m.size ≤ 140737488355328 := by
  obtain ⟨m, hm, h1, -⟩ := DataW.trod_string Tryd.underlying9 h
  refine ⟨m, by simpa using hm, ?_⟩
  replace h1 : y.1 = .lit (.string m.data.toList) := congrArg Prod.fst h1
  rw [h1] at hw
  have := hw m.data.toList.length (by simp [DataW.weights])
  have hre : reachBytes ≤ 140737488355328 := by decide
  have hl : m.data.toList.length = m.size := by simp
  omega
set_option maxRecDepth 100000 in
theorem req_in2 {H : Type} {enc : TypeId × Value → H} {W : World} {base : Nat} {v : Value} {d : DataW H} {ps : List MemPlace}
    (hv : Value.okWide Tryd.prog W .any base 43 v) (h : DataW.Trod enc Tryd.prog W 0 (fun _ => true) true 43 v d ps) (hw : ∀ n ∈ d.weights Tryd.prog 43, n ≤ reachBytes) :
    ∃ (m t : List UInt8) (sv : Value) (L : List (List UInt8 × List UInt8)), v = .agg #[.string (str m), .string (str t), sv] ∧ Rd W 2 sv L.length (prs L) ∧ (∀ p ∈ L, p.1.length ≤ 140737488355328 ∧ p.2.length ≤ 140737488355328) ∧ L.length ≤ 140737488355328 ∧ m.length ≤ 140737488355328 ∧ t.length ≤ 140737488355328 := by
  obtain ⟨cs, rfl, hsz⟩ := okWide_struct Tryd.underlying43 hv
  have hs3 : cs.size = 3 := hsz.trans (by kernel_rfl)
  obtain ⟨fuel, hf⟩ := h
  have hf' : DataW.trod enc Tryd.prog W 0 (fun _ => true) true fuel 43 cs.toList = some (d, ps) := hf
  obtain ⟨y0, y1, y2, n, hx, hl, h0, h1, h2⟩ := Go.Deep.trod_struct3 Tryd.underlying43 hf'
  obtain ⟨c0, c1, c2, rfl⟩ : ∃ c0 c1 c2, cs = #[c0, c1, c2] := by
    match cs, hs3 with
    | ⟨[a, b, c]⟩, _ => exact ⟨a, b, c, rfl⟩
  have h0' : DataW.trod enc Tryd.prog W 0 (fun _ => true) true n 9 [c0] = some y0 := h0
  have h1' : DataW.trod enc Tryd.prog W 0 (fun _ => true) true n 9 [c1] = some y1 := h1
  have h2' : DataW.trod enc Tryd.prog W 0 (fun _ => true) true n 22 [c2] = some y2 := h2
  have hd : d = .agg [y0.1, y1.1, y2.1] := congrArg Prod.fst hx
  have hw0 : ∀ n ∈ y0.1.weights Tryd.prog 9, n ≤ reachBytes := fun n hn => hw n (by
    rw [hd]
    simp only [DataW.weights, Tryd.underlying43]
    exact DataW.weights_mem_each (j := 0) rfl rfl n hn)
  have hw1 : ∀ n ∈ y1.1.weights Tryd.prog 9, n ≤ reachBytes := fun n hn => hw n (by
    rw [hd]
    simp only [DataW.weights, Tryd.underlying43]
    exact DataW.weights_mem_each (j := 1) rfl rfl n hn)
  have hw2 : ∀ n ∈ y2.1.weights Tryd.prog 22, n ≤ reachBytes := fun n hn => hw n (by
    rw [hd]
    simp only [DataW.weights, Tryd.underlying43]
    exact DataW.weights_mem_each (j := 2) rfl rfl n hn)
  obtain ⟨m, rfl, hm⟩ := str_weight h0' hw0
  obtain ⟨t, rfl, ht⟩ := str_weight h1' hw1
  obtain ⟨L, R0, B0, N0⟩ := pairs_cells h2' hw2
  exact ⟨bs m, bs t, c2, L, by rw [str_bs, str_bs], R0, B0, N0, by rw [bs_length]; exact hm, by rw [bs_length]; exact ht⟩
end Go.Proofs.YtemlnmelicnneaaDoor
