/-
  Several texts in one: Laid, WIn.
-/
import Derived.Test.YtpfpjcfacbfjaaaGreatDoorRows
import Derived.WalkKit
import Derived.ProofKit
import Derived.OpenShut
import Derived.Test.YtpfpjcfacbfjaaaGreatDoorKp
import Derived.Deep.Strs
import Derived.ShutString
import Derived.ChangeOld
import Derived.Below
import Derived.ChangeArms
/-
  A world for the witnesses: Go's own tables laid.
-/
namespace Go.Proofs.YtpfpjcfacbfjaaaGreatDoor
open Go.RowKit

def litV : DataW Unit → Value
  | .lit (.int k n) => .int k n
  | _ => .nilIface
def flatV : DataW Unit → List Value
  | .agg l => l.map litV
  | d => [litV d]
def cellsV : DataW Unit → Array Value
  | .agg l => (l.flatMap flatV).toArray
  | d => #[litV d]
def fillCells (cs : Array Value) : Obj → Obj
  | .cells _ t frozen => .cells cs t frozen
  | o => o
/-- The settled world, with the tables. -/
noncomputable def laidWorld (os : Os) : World :=
  { World.holding Tryz.prog os ⟨#[], #[], []⟩ with heap := ((World.holding Tryz.prog os ⟨#[], #[], []⟩).heap.modify 2 (fillCells (cellsV Rows.laid_unicode_utf8_acceptRanges))).modify 1 (fillCells (cellsV Rows.laid_unicode_utf8_first)) }
theorem own : ownKnob Tryz.prog.godebug = none := by kernel_rfl
theorem laidOut : laidOutB Tryz.prog = true := by kernel_rfl
end Go.Proofs.YtpfpjcfacbfjaaaGreatDoor
/-
  The arguments of WholePaths that come in: five weights, and a slice of bytes.
-/
namespace Go.Proofs.YtpfpjcfacbfjaaaGreatDoor
open Go.ChangeShapes Go.WideShapes Go.ChangeAt Go.RowKit
theorem wcell_plain {w : World} {a : Addr} {v : Value} (h : w.cell? a = some v) : a = ⟨a.block, a.off, none⟩ := by
  have := World.cell?_spot h
  cases a
  simp_all
theorem wadd_flat (b o i : Nat) : (⟨b, o, none⟩ : Addr).add i = ⟨b, o + i, none⟩ := by unfold Addr.add; split <;> simp_all
theorem wlist5 {α : Type} (l : List α) (h : (⟨l⟩ : Array α).size = 5) : ∃ a b c d e, l = [a, b, c, d, e] := by
  match l, h with
  | [a, b, c, d, e], _ => exact ⟨a, b, c, d, e, rfl⟩
theorem wcells1 : Tryz.prog.cellsOf 5 = 1 := by kernel_rfl
theorem wcells5 : Tryz.prog.cellsOf 22 = 5 := by kernel_rfl
theorem wbyte {H : Type} {enc : TypeId × Value → H} {W : World} {m : Nat} {c : Value} {o : Option (DataW H × List MemPlace)} {x : DataW H × List MemPlace}
    (h : DataW.trod enc Tryz.prog W 0 (fun _ => true) true m 5 [c] = o) (ho : o = some x) : ∃ a : Nat, c = .int .u8 (a : Int) ∧ a < 256 := by
  subst ho
  obtain ⟨n, e, _, hw⟩ := DataW.trod_int Tryz.underlying5 h
  have hb := Go.bounds_u8 hw
  have e1 : c = .int .u8 n := by simpa using e
  exact ⟨n.toNat, by rw [e1, Int.toNat_of_nonneg hb.1], by omega⟩
set_option maxRecDepth 100000 in
theorem weights_in {H : Type} {enc : TypeId × Value → H} {W : World} {base : Nat} {v : Value} {d : DataW H} {ps : List MemPlace}
    (hv : Value.okWide Tryz.prog W .any base 22 v) (h : DataW.Trod enc Tryz.prog W 0 (fun _ => true) true 22 v d ps) :
    ∃ a0 a1 a2 a3 a4 : Nat, v = .agg #[.int .u8 (a0 : Int), .int .u8 (a1 : Int), .int .u8 (a2 : Int), .int .u8 (a3 : Int), .int .u8 (a4 : Int)] ∧ a0 < 256 ∧ a1 < 256 ∧ a2 < 256 ∧ a3 < 256 ∧ a4 < 256 := by
  obtain ⟨cs, rfl, hsz, _⟩ : ∃ cs, v = .agg cs ∧ cs.size = Tryz.prog.cellsOf 22 ∧ Row.okWide Tryz.prog W .any base 22 cs := by
    simpa [Value.okWide, Tryz.underlying22] using hv
  rw [wcells5] at hsz
  obtain ⟨l⟩ := cs
  obtain ⟨c0, c1, c2, c3, c4, rfl⟩ := wlist5 l hsz
  obtain ⟨fuel, hf⟩ := h
  obtain ⟨xs, m, rfl, _, _, hxl, hx⟩ := DataW.trod_array Tryz.underlying22 hf
  simp only [wcells1, Nat.mul_one] at hx
  obtain ⟨y0, y1, y2, y3, y4, rfl⟩ := wlist5 xs (by simpa using hxl)
  obtain ⟨a0, rfl, b0⟩ := wbyte (hx 0 (by decide)) rfl
  obtain ⟨a1, rfl, b1⟩ := wbyte (hx 1 (by decide)) rfl
  obtain ⟨a2, rfl, b2⟩ := wbyte (hx 2 (by decide)) rfl
  obtain ⟨a3, rfl, b3⟩ := wbyte (hx 3 (by decide)) rfl
  obtain ⟨a4, rfl, b4⟩ := wbyte (hx 4 (by decide)) rfl
  exact ⟨a0, a1, a2, a3, a4, rfl, b0, b1, b2, b3, b4⟩
set_option maxRecDepth 100000 in
theorem bytes_in {H : Type} {enc : TypeId × Value → H} {W : World} {base : Nat} {v : Value} {d : DataW H} {ps : List MemPlace}
    (hv : Value.okWide Tryz.prog W .any base 23 v) (h : DataW.Trod enc Tryz.prog W 0 (fun _ => true) true 23 v d ps) :
    ∃ zs : List Int, Rd W 1 v zs.length (zs.map fun z => Value.int .u8 z) ∧ (∀ z ∈ zs, 0 ≤ z ∧ z ≤ 255) ∧ zs.length ≤ maxLen := by
  obtain ⟨A, len, cap, rfl⟩ := okWide_slice Tryz.underlying23 hv
  obtain ⟨fuel, hf⟩ := h
  rcases open_ints Tryz.underlying23 Tryz.underlying5 (by kernel_rfl) hf with ⟨hcs, _⟩ | ⟨a, n, c, zs, hcs, _, hl, hm, hz, hx, hcell, hwf⟩
  · simp [Value.cells] at hcs
    obtain ⟨rfl, rfl, rfl⟩ := hcs
    exact ⟨[], Rd.nil W 1, by simp, by simp⟩
  · simp [Value.cells] at hcs
    obtain ⟨rfl, rfl, rfl⟩ := hcs
    have hnm : len ≤ zs.length := by rw [hz]; simp; omega
    have hL : (zs.take len).length = len := by rw [List.length_take]; omega
    refine ⟨zs.take len, ?_, ?_, ?_⟩
    · rw [hL]
      refine ⟨_, _, rfl, hl, by simp; omega, fun hn => ?_⟩
      have ha : a = ⟨a.block, a.off, none⟩ := by
        have h0 := hcell 0 (by omega)
        have : a.add 0 = a := by unfold Addr.add; simp
        rw [this] at h0
        exact wcell_plain h0
      refine ⟨a.block, a.off, congrArg some ha, cell_lt (a := a.add 0) (hcell 0 (by omega)) |> fun h => by simpa [Addr.add] using h, fun j u hu => ?_⟩
      have hj : j < len := by
        rcases Nat.lt_or_ge j len with h | h
        · exact h
        · rw [List.getElem?_eq_none (by simp; omega)] at hu; cases hu
      have h1 := hcell j (by omega)
      rw [ha, wadd_flat] at h1
      rw [h1]
      have hj2 : j < (zs.take len).length := by omega
      rw [List.getElem?_map, List.getElem?_eq_getElem hj2, Option.map_some] at hu
      rw [← hu, List.getElem_take, List.getD_eq_getElem?_getD, List.getElem?_eq_getElem (by omega)]; rfl
    · intro z hz'
      exact Go.bounds_u8 (hwf z (List.mem_of_mem_take hz'))
    · rw [hL]; omega
end Go.Proofs.YtpfpjcfacbfjaaaGreatDoor
