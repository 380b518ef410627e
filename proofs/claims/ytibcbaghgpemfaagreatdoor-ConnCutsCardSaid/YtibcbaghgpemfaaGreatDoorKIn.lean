/-
  Layer 8: a Kind that came in: a flag and methods.
-/
import Derived.Test.YtibcbaghgpemfaaGreatDoorGLow
import Derived.Deep.SlicePairs
import Derived.Deep.Strs
import Derived.SizedLaws
import Derived.ShutString
import Derived.ChangeOld
import Derived.Below
namespace Go.Proofs.YtibcbaghgpemfaaGreatDoor
open Go.ChangeShapes Go.WideShapes Go.RowKit Syn
theorem k_plain {w : World} {a : Addr} {v : Value} (h : w.cell? a = some v) : a = ⟨a.block, a.off, none⟩ := by
  have := World.cell?_spot h
  cases a
  simp_all
theorem k_flat (b o i : Nat) : (⟨b, o, none⟩ : Addr).add i = ⟨b, o + i, none⟩ := by unfold Addr.add; split <;> simp_all
set_option maxRecDepth 100000 in
theorem kind_in {H : Type} {enc : TypeId × Value → H} {W : World} {base : Nat} {v : Value} {d : DataW H} {ps : List MemPlace}
    (hv : Value.okWide Tryz.prog W .any base 89 v) (h : DataW.Trod enc Tryz.prog W 0 (fun _ => true) true 89 v d ps) :
    ∃ (r : Bool) (A : Option Addr) (cap : Nat) (ts : List (List UInt8)), v = .agg #[.bool r, .slice A ts.length cap] ∧ Rd W 1 (.slice A ts.length cap) ts.length (strs ts) := by
  obtain ⟨cs, rfl, hsz⟩ := okWide_struct Tryz.underlying89 hv
  have hs2 : cs.size = 2 := hsz.trans (by kernel_rfl)
  obtain ⟨fuel, hf⟩ := h
  have hf' : DataW.trod enc Tryz.prog W 0 (fun _ => true) true fuel 89 cs.toList = some (d, ps) := hf
  obtain ⟨y0, y1, n, hx, hl, h0, h1⟩ := trod_struct2 Tryz.underlying89 hf'
  obtain ⟨c0, c1, rfl⟩ : ∃ c0 c1, cs = #[c0, c1] := by
    match cs, hs2 with
    | ⟨[a, b]⟩, _ => exact ⟨a, b, rfl⟩
  have h0' : DataW.trod enc Tryz.prog W 0 (fun _ => true) true n 4 [c0] = some y0 := h0
  have h1' : DataW.trod enc Tryz.prog W 0 (fun _ => true) true n 22 [c1] = some y1 := h1
  obtain ⟨b, hm, -⟩ := DataW.trod_bool Tryz.underlying4 h0'
  obtain rfl : c0 = .bool b := by simpa using hm
  rcases Go.Deep.open_strs Tryz.underlying22 Tryz.underlying9 (by kernel_rfl) h1' with ⟨hcs, _⟩ | ⟨a, len, cap, m, Sx, hcs, _, hl2, hm2, hmm, hx2, hcell⟩
  · obtain rfl : c1 = .slice none 0 0 := by simpa using hcs
    exact ⟨b, none, 0, [], rfl, Rd.nil W 1⟩
  · obtain rfl : c1 = .slice (some a) len cap := by simpa using hcs
    have hnm : len ≤ m := by rw [hmm]; simp; omega
    have hL : ((List.range len).map fun i => bs (Sx i)).length = len := by simp
    refine ⟨b, some a, cap, (List.range len).map fun i => bs (Sx i), by rw [hL], ?_⟩
    rw [hL]
    refine ⟨_, _, rfl, hl2, by simp [strs], fun hn => ?_⟩
    have ha : a = ⟨a.block, a.off, none⟩ := by
      have h0 := (hcell 0 (by omega)).1
      have : a.add 0 = a := by unfold Addr.add; simp
      rw [this] at h0
      exact k_plain h0
    refine ⟨a.block, a.off, congrArg some ha, cell_lt (a := a.add 0) (hcell 0 (by omega)).1 |> fun h => by simpa [Addr.add] using h, fun j u hu => ?_⟩
    have hj : j < len := by
      rcases Nat.lt_or_ge j len with h | h
      · exact h
      · rw [List.getElem?_eq_none (by simp [strs]; omega)] at hu; cases hu
    have h1 := (hcell j (by omega)).1
    rw [ha, k_flat] at h1
    rw [h1, ← hu]
    simp [strs, hj, str_bs]
end Go.Proofs.YtibcbaghgpemfaaGreatDoor
