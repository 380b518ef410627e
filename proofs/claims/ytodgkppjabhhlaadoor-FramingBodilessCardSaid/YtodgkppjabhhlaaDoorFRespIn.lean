/-
  A response that came in.
-/
import Derived.Test.YtodgkppjabhhlaaDoorFReqIn
namespace Go.Proofs.YtodgkppjabhhlaaDoor
open Go.ChangeShapes Go.WideShapes Go.RowKit Syn Fr

set_option maxRecDepth 100000 in
theorem resp_in {H : Type} {enc : TypeId × Value → H} {W : World} {base : Nat} {v : Value} {d : DataW H} {ps : List MemPlace}
    (hv : Value.okWide Tryd.prog W .any base 53 v) (h : DataW.Trod enc Tryd.prog W 0 (fun _ => true) true 53 v d ps) (hw : ∀ n ∈ d.weights Tryd.prog 53, n ≤ reachBytes) :
    ∃ (z : Int) (sv : Value) (L : List (List UInt8 × List UInt8)), v = .agg #[.int .i64 z, sv] ∧ Rd W 2 sv L.length (prs L) ∧ (∀ p ∈ L, p.1.length ≤ 140737488355328 ∧ p.2.length ≤ 140737488355328) ∧ L.length ≤ 140737488355328 ∧ (Lit.int .i64 z).wf = true := by
  obtain ⟨cs, rfl, hsz⟩ := okWide_struct Tryd.underlying53 hv
  have hs2 : cs.size = 2 := hsz.trans (by kernel_rfl)
  obtain ⟨fuel, hf⟩ := h
  have hf' : DataW.trod enc Tryd.prog W 0 (fun _ => true) true fuel 53 cs.toList = some (d, ps) := hf
  obtain ⟨y0, y1, n, hx, hl, h0, h1⟩ := trod_struct2 Tryd.underlying53 hf'
  obtain ⟨c0, c1, rfl⟩ : ∃ c0 c1, cs = #[c0, c1] := by
    match cs, hs2 with
    | ⟨[a, b]⟩, _ => exact ⟨a, b, rfl⟩
  have h0' : DataW.trod enc Tryd.prog W 0 (fun _ => true) true n 3 [c0] = some y0 := h0
  have h1' : DataW.trod enc Tryd.prog W 0 (fun _ => true) true n 22 [c1] = some y1 := h1
  obtain ⟨z, hm, -, hz⟩ := DataW.trod_int Tryd.underlying3 h0'
  obtain rfl : c0 = .int .i64 z := by simpa using hm
  have hd : d = .agg [y0.1, y1.1] := congrArg Prod.fst hx
  have hw2 : ∀ n ∈ y1.1.weights Tryd.prog 22, n ≤ reachBytes := fun n hn => hw n (by
    rw [hd]
    simp only [DataW.weights, Tryd.underlying53]
    exact DataW.weights_mem_each (j := 1) rfl rfl n hn)
  obtain ⟨L, R0, B0, N0⟩ := pairs_cells h1' hw2
  exact ⟨z, c1, L, rfl, R0, B0, N0, hz⟩
end Go.Proofs.YtodgkppjabhhlaaDoor
