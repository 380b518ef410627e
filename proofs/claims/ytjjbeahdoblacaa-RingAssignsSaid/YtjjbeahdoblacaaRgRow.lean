/-
  A law's argument that is a slice of bytes.
-/
import Derived.Test.YtjjbeahdoblacaaRgAsgW
import Derived.Test.YtjjbeahdoblacaaRgArgs
namespace Go.Proofs.Ytjjbeahdoblacaa
open Go.RowKit Rg
/-- A slice of integers that came in: it is nil; or it leads to a row of 'cap' cells, the numbers 'zs', each fitting its kind. -/
def IsRow (k : IntKind) (w : World) (a : Option Addr) (len cap : Nat) (zs : List Int) : Prop :=
  (a = none ∧ len = 0 ∧ cap = 0 ∧ zs = []) ∨
  ∃ x, a = some x ∧ len ≤ cap ∧ cap ≤ maxLen ∧ zs.length = cap ∧ (∀ i, i < zs.length → w.cell? (x.add i) = some (.int k (zs.getD i 0))) ∧ ∀ n ∈ zs, (Lit.int k n).wf = true
theorem IsRow.rd {w : World} {a : Option Addr} {len cap : Nat} {zs : List Int} (h : IsRow .u8 w a len cap zs) :
    ∃ ys : List Int, ys.length = len ∧ Rd w 1 (.slice a len cap) ys.length (u8z ys) ∧ (∀ z ∈ ys, 0 ≤ z ∧ z ≤ 255) ∧ len ≤ maxLen := by
  rcases h with ⟨rfl, rfl, rfl, rfl⟩ | ⟨x, rfl, hl, hm, hz, hcell, hwf⟩
  · exact ⟨[], rfl, Rd.nil w 1, by simp, Nat.zero_le _⟩
  · have hL : (zs.take len).length = len := by rw [List.length_take]; omega
    refine ⟨zs.take len, hL, ?_, fun z hz' => Go.bounds_u8 (hwf z (List.mem_of_mem_take hz')), by omega⟩
    rw [hL]
    refine ⟨_, _, rfl, hl, by simp [u8z]; omega, fun hn => ?_⟩
    have h0 := hcell 0 (by omega)
    rw [rg_add0] at h0
    have ha := rg_plain h0
    refine ⟨x.block, x.off, congrArg some ha, cell_lt h0, fun j u hu => ?_⟩
    have hj : j < len := by
      have := (List.getElem?_eq_some_iff.1 hu).1
      simp [u8z] at this; omega
    have h1 := hcell j (by omega)
    rw [ha, rg_flat] at h1
    rw [h1, ← hu, u8z_at (by rw [hL]; exact hj), List.getElem_take, List.getD_eq_getElem?_getD, List.getElem?_eq_getElem (by omega)]; rfl
end Go.Proofs.Ytjjbeahdoblacaa
