/-
  A law's argument that is a slice of {N, W uint8}.
-/
import Derived.Test.YtjjbeahdoblacaaRgMade
import Derived.ProofKit
import Derived.ShutString
import Derived.ChangeOld
import Derived.Deep.Strs
namespace Go.Proofs.Ytjjbeahdoblacaa
open Go.ChangeShapes Go.WideShapes Go.ChangeAt Go.RowKit Rg
theorem rg_flat (b o i : Nat) : (⟨b, o, none⟩ : Addr).add i = ⟨b, o + i, none⟩ := by unfold Addr.add; split <;> simp_all
theorem rg_plain {w : World} {a : Addr} {v : Value} (h : w.cell? a = some v) : a = ⟨a.block, a.off, none⟩ := by
  have := World.cell?_spot h
  cases a
  simp_all
theorem pls_length (l : List (Nat × Nat)) : (pls l).length = l.length * 2 := by
  induction l with
  | nil => rfl
  | cons x l ih => simp only [pls, List.flatMap_cons, List.length_append, List.length_cons, List.length_nil] at ih ⊢; omega
theorem rg_add0 (a : Addr) : a.add 0 = a := by unfold Addr.add; simp
set_option maxRecDepth 100000 in
theorem plain_in {H : Type} {enc : TypeId × Value → H} {W : World} {base : Nat} {v : Value} {d : DataW H} {ps : List MemPlace}
    (hv : Value.okWide Try.prog W .any base 23 v) (h : DataW.Trod enc Try.prog W 0 (fun _ => true) true 23 v d ps) :
    ∃ l : List (Nat × Nat), Rd W 2 v l.length (pls l) ∧ (∀ x ∈ l, x.1 < 256 ∧ x.2 < 256) ∧ l.length ≤ maxLen := by
  obtain ⟨A, len, cap, rfl⟩ := okWide_slice Try.underlying23 hv
  obtain ⟨fuel, hf⟩ := h
  rcases Go.Deep.open_slice Try.underlying23 hf with ⟨hcs, _⟩ | ⟨a, n, c, m, n', D, Pl, hcs, _, hl, hm, hmm, hx, hcell⟩
  · simp [Value.cells] at hcs
    obtain ⟨rfl, rfl, rfl⟩ := hcs
    exact ⟨[], Rd.nil W 2, by simp, by simp⟩
  · simp [Value.cells] at hcs
    obtain ⟨rfl, rfl, rfl⟩ := hcs
    have hnm : len ≤ m := by rw [hmm]; simp; omega
    have hC : Try.prog.cellsOf 59 = 2 := by kernel_rfl
    rw [hC] at hcell
    have each : ∀ i, i < len → ∃ p : Nat × Nat, W.cell? (a.add (i * 2)) = some (.int .u8 (p.1 : Int)) ∧ W.cell? (a.add (i * 2 + 1)) = some (.int .u8 (p.2 : Int)) ∧ p.1 < 256 ∧ p.2 < 256 := fun i hi => by
      obtain ⟨cs', hc, ht⟩ := hcell i (by omega)
      obtain ⟨y0, y1, k, -, hcl, h0, h1⟩ := trod_struct2 Try.underlying59 ht
      obtain ⟨_, hcl2, hat⟩ := World.cells?_some hc
      match cs', hcl2 with
      | [c0, c1], _ =>
        have e0 := hat 0 (by omega)
        have e1 := hat 1 (by omega)
        simp at e0 e1
        rw [Go.Deep.add_add] at e1
        have h0' : DataW.trod enc Try.prog W 0 (fun _ => true) true k 5 [c0] = some y0 := h0
        have h1' : DataW.trod enc Try.prog W 0 (fun _ => true) true k 5 [c1] = some y1 := h1
        obtain ⟨n0, q0, -, w0⟩ := DataW.trod_int Try.underlying5 h0'
        obtain ⟨n1, q1, -, w1⟩ := DataW.trod_int Try.underlying5 h1'
        simp at q0 q1
        subst q0 q1
        have b0 := Go.bounds_u8 w0
        have b1 := Go.bounds_u8 w1
        refine ⟨(n0.toNat, n1.toNat), ?_, ?_, by simp; omega, by simp; omega⟩
        · rw [rg_add0] at e0; rw [e0]; simp; omega
        · rw [e1]; simp; omega
    obtain ⟨f, hF⟩ := Go.Deep.choose_lt each
    have hL : ((List.range len).map f).length = len := by simp
    refine ⟨(List.range len).map f, ?_, fun x hx => ?_, by rw [hL]; omega⟩
    · rw [hL]
      refine ⟨_, _, rfl, hl, by rw [pls_length, hL], fun hn => ?_⟩
      have h00 := (hF 0 hn).1
      rw [show a.add (0 * 2) = a by unfold Addr.add; simp] at h00
      have ha := rg_plain h00
      refine ⟨a.block, a.off, congrArg some ha, cell_lt h00, fun j u hu => ?_⟩
      have hj : j < (pls ((List.range len).map f)).length := (List.getElem?_eq_some_iff.1 hu).1
      have hj2 : j < len * 2 := by rw [pls_length, hL] at hj; exact hj
      have hk : j / 2 < ((List.range len).map f).length := by rw [hL]; omega
      rcases Nat.mod_two_eq_zero_or_one j with e | e
      · have hj' : j = j / 2 * 2 := by omega
        have := (hF (j / 2) (by omega)).1
        rw [ha, rg_flat, ← hj'] at this
        rw [this, ← hu]
        have h2 := two_at0 (fun x : Nat × Nat => Value.int .u8 (x.1 : Int)) (fun x => .int .u8 (x.2 : Int)) hk
        rw [← hj', List.getElem_map, List.getElem_range] at h2
        exact h2.symm
      · have hj' : j = j / 2 * 2 + 1 := by omega
        have := (hF (j / 2) (by omega)).2.1
        rw [ha, rg_flat, ← hj'] at this
        rw [this, ← hu]
        have h2 := two_at1 (fun x : Nat × Nat => Value.int .u8 (x.1 : Int)) (fun x => .int .u8 (x.2 : Int)) hk
        rw [← hj', List.getElem_map, List.getElem_range] at h2
        exact h2.symm
    · obtain ⟨i, hi, rfl⟩ := List.mem_map.1 hx
      exact (hF i (List.mem_range.1 hi)).2.2
set_option maxRecDepth 100000 in
/-- A slice of texts. -/
theorem keys_in {H : Type} {enc : TypeId × Value → H} {W : World} {base : Nat} {v : Value} {d : DataW H} {ps : List MemPlace}
    (hv : Value.okWide Try.prog W .any base 29 v) (h : DataW.Trod enc Try.prog W 0 (fun _ => true) true 29 v d ps) :
    ∃ ts : List (List UInt8), Rd W 1 v ts.length (strs ts) ∧ (∀ t ∈ ts, t.length ≤ maxLen) ∧ ts.length ≤ maxLen := by
  obtain ⟨A, len, cap, rfl⟩ := okWide_slice Try.underlying29 hv
  obtain ⟨fuel, hf⟩ := h
  rcases Go.Deep.open_strs Try.underlying29 Try.underlying9 (by kernel_rfl) hf with ⟨hcs, _⟩ | ⟨a, n, c, m, Sx, hcs, _, hl, hm, hmm, hx, hcell⟩
  · simp [Value.cells] at hcs
    obtain ⟨rfl, rfl, rfl⟩ := hcs
    exact ⟨[], Rd.nil W 1, by simp, by simp⟩
  · simp [Value.cells] at hcs
    obtain ⟨rfl, rfl, rfl⟩ := hcs
    have hnm : len ≤ m := by rw [hmm]; simp; omega
    have hL : ((List.range len).map fun i => bs (Sx i)).length = len := by simp
    refine ⟨(List.range len).map fun i => bs (Sx i), ?_, ?_, by rw [hL]; omega⟩
    · rw [hL]
      refine ⟨_, _, rfl, hl, by rw [strs_length, hL]; omega, fun hn => ?_⟩
      have h0 := (hcell 0 (by omega)).1
      rw [rg_add0] at h0
      have ha := rg_plain h0
      refine ⟨a.block, a.off, congrArg some ha, cell_lt h0, fun j u hu => ?_⟩
      have hj : j < len := by
        have := (List.getElem?_eq_some_iff.1 hu).1
        rwa [strs_length, hL] at this
      have h1 := (hcell j (by omega)).1
      rw [ha, rg_flat] at h1
      rw [h1, ← hu, strs_at (by rw [hL]; exact hj), List.getElem_map, List.getElem_range, str_bs]
    · intro t ht
      obtain ⟨i, hi, rfl⟩ := List.mem_map.1 ht
      have := (hcell i (by have := List.mem_range.1 hi; omega)).2
      simpa [bs] using this
end Go.Proofs.Ytjjbeahdoblacaa
