/-
  A case that came in (within the bulk's bound).
-/
import Derived.Test.YtkcipebpknapkaaGreatDoorTEdgesW
import Derived.Deep.Strs
import Derived.ProofKit
import Derived.OpenShut
import Derived.ShutString
import Derived.ChangeOld
import Derived.Below
namespace Go.Proofs.YtkcipebpknapkaaGreatDoor.tiIn
open Go.ChangeShapes Go.WideShapes Go.ChangeAt Go.RowKit Syn Ti Rg
open Go.ChangeMaps (open_string shut_string)
theorem one_le {H : Type} (d : DataW H) : 1 ≤ Rows.uptoBulk d := by
  cases d with
  | lit l => cases l <;> simp [Rows.uptoBulk]
  | nil => simp [Rows.uptoBulk]
  | ptr d => simp [Rows.uptoBulk]
  | slice elems spare => simp [Rows.uptoBulk]
  | agg parts => simp [Rows.uptoBulk]
  | iface t d => simp [Rows.uptoBulk]
  | map entries => simp [Rows.uptoBulk]
  | held h => simp [Rows.uptoBulk]
theorem part_le {H : Type} {d : DataW H} {l : List (DataW H)} (h : d ∈ l) : Rows.uptoBulk d ≤ Rows.uptoBulkAll l := by
  induction l with
  | nil => cases h
  | cons x r ih =>
    simp only [Rows.uptoBulkAll]
    cases List.mem_cons.1 h with
    | inl e => subst e; omega
    | inr e => have := ih e; omega
theorem length_le {H : Type} (l : List (DataW H)) : l.length ≤ Rows.uptoBulkAll l := by
  induction l with
  | nil => simp [Rows.uptoBulkAll]
  | cons x r ih => have := one_le x; simp only [Rows.uptoBulkAll, List.length_cons]; omega
theorem cell_plain {w : World} {a : Addr} {v : Value} (h : w.cell? a = some v) : a = ⟨a.block, a.off, none⟩ := by
  have := World.cell?_spot h
  cases a
  simp_all
theorem add_flat (b o i : Nat) : (⟨b, o, none⟩ : Addr).add i = ⟨b, o + i, none⟩ := by unfold Addr.add; split <;> simp_all
theorem sumB_le {l : List Bytes} {M : Nat} (h : ∀ t ∈ l, t.length ≤ M) : sumB l ≤ l.length * (1 + M) := by
  induction l with
  | nil => simp [sumB]
  | cons s r ih =>
    have h1 := h s (List.mem_cons_self ..)
    have h2 := ih (fun t ht => h t (List.mem_cons_of_mem _ ht))
    rw [sumB_cons, List.length_cons, Nat.add_mul]; omega
/-- A slice of texts, from its cell. -/
theorem texts_cell {H : Type} {enc : TypeId × Value → H} {W : World} {fuel : Nat} {v : Value} {x : DataW H × List MemPlace}
    (hf : DataW.trod enc Tryz.prog W 0 (fun _ => true) true fuel 22 [v] = some x) (hb : Rows.uptoBulk x.1 ≤ 1048576) :
    ∃ (ts : List Bytes) (A : Option Addr) (cap : Nat), v = .slice A ts.length cap ∧ (A = none → cap = 0) ∧ Rd W 1 v ts.length (strs ts) ∧ sumB ts ≤ 1099512676352 := by
  rcases Go.Deep.open_strs Tryz.underlying22 Tryz.underlying9 (by kernel_rfl) hf with ⟨hcs, _⟩ | ⟨a, n, c, m, Sx, hcs, _, hl, hm, hmm, hx, hcell⟩
  · obtain rfl : v = .slice none 0 0 := by simpa using hcs
    exact ⟨[], none, 0, rfl, fun _ => rfl, Rd.nil W 1, by simp [sumB]⟩
  · obtain rfl : v = .slice (some a) n c := by simpa using hcs
    have hnm : n ≤ m := by rw [hmm]; simp; omega
    have hd : x.1 = .slice ((List.range n).map fun i => .lit (.string (Sx i).data.toList)) ((List.range (m - n)).map fun j => .lit (.string (Sx (n + j)).data.toList)) := congrArg Prod.fst hx
    rw [hd] at hb
    have hb1 : Rows.uptoBulkAll ((List.range n).map fun i => (DataW.lit (H := H) (.string (Sx i).data.toList))) ≤ 1048576 := by
      simp only [Rows.uptoBulk] at hb; omega
    have hL : ((List.range n).map fun i => bs (Sx i)).length = n := by simp
    have hnl : n ≤ 1048576 := by
      have := length_le ((List.range n).map fun i => (DataW.lit (H := H) (.string (Sx i).data.toList)))
      simp only [List.length_map, List.length_range] at this
      omega
    refine ⟨(List.range n).map fun i => bs (Sx i), some a, c, by rw [hL], (fun h => by cases h), ?_, ?_⟩
    · rw [hL]
      refine ⟨_, _, rfl, hl, by simp [strs], fun hn => ?_⟩
      have ha : a = ⟨a.block, a.off, none⟩ := by
        have h0 := (hcell 0 (by omega)).1
        have : a.add 0 = a := by unfold Addr.add; simp
        rw [this] at h0
        exact cell_plain h0
      refine ⟨a.block, a.off, congrArg some ha, cell_lt (a := a.add 0) (hcell 0 (by omega)).1 |> fun h => by simpa [Addr.add] using h, fun j u hu => ?_⟩
      have hj : j < n := by
        rcases Nat.lt_or_ge j n with h | h
        · exact h
        · rw [List.getElem?_eq_none (by simp [strs]; omega)] at hu; cases hu
      have h1 := (hcell j (by omega)).1
      rw [ha, add_flat] at h1
      rw [h1, ← hu]
      simp [strs, hj, str_bs]
    · have h1 := sumB_le (l := (List.range n).map fun i => bs (Sx i)) (M := 1048576) (fun t ht => by
        rw [List.mem_map] at ht
        obtain ⟨i, hi, rfl⟩ := ht
        have := part_le (List.mem_map_of_mem (f := fun i => (DataW.lit (H := H) (.string (Sx i).data.toList))) hi)
        simp only [Rows.uptoBulk] at this
        show (Sx i).data.toList.length ≤ _
        omega)
      rw [hL] at h1
      have h2 : n * (1 + 1048576) ≤ 1048576 * (1 + 1048576) := Nat.mul_le_mul_right _ hnl
      omega
theorem trod_struct6 {H : Type} {enc : TypeId × Value → H} {P : Program} {w : World} {base : Nat} {spare : Nat → Bool} {held : Bool} {t : TypeId} {f0 f1 f2 f3 f4 f5 : Field} {fuel : Nat} {cs : List Value} {x : DataW H × List MemPlace} (ht : P.underlying t = some (.struct #[f0, f1, f2, f3, f4, f5])) (h : DataW.trod enc P w base spare held fuel t cs = some x) :
    ∃ y0 y1 y2 y3 y4 y5 n, x.1 = .agg [y0.1, y1.1, y2.1, y3.1, y4.1, y5.1] ∧ DataW.trod enc P w base spare held n f0.type ((cs.drop f0.offset).take (P.cellsOf f0.type)) = some y0 ∧
      DataW.trod enc P w base spare held n f1.type ((cs.drop f1.offset).take (P.cellsOf f1.type)) = some y1 ∧ DataW.trod enc P w base spare held n f2.type ((cs.drop f2.offset).take (P.cellsOf f2.type)) = some y2 ∧
      DataW.trod enc P w base spare held n f3.type ((cs.drop f3.offset).take (P.cellsOf f3.type)) = some y3 ∧ DataW.trod enc P w base spare held n f4.type ((cs.drop f4.offset).take (P.cellsOf f4.type)) = some y4 ∧ DataW.trod enc P w base spare held n f5.type ((cs.drop f5.offset).take (P.cellsOf f5.type)) = some y5 := by
  obtain ⟨xs, n, _, rfl, hl, hlen, hf⟩ := DataW.trod_struct ht h
  match xs, hlen with
  | [y0, y1, y2, y3, y4, y5], _ => exact ⟨y0, y1, y2, y3, y4, y5, n, by simp, by simpa using hf 0 f0 rfl, by simpa using hf 1 f1 rfl, by simpa using hf 2 f2 rfl, by simpa using hf 3 f3 rfl, by simpa using hf 4 f4 rfl, by simpa using hf 5 f5 rfl⟩
set_option maxRecDepth 100000 in
theorem case_in {H : Type} {enc : TypeId × Value → H} {W : World} {base : Nat} {v : Value} {d : DataW H} {ps : List MemPlace}
    (hv : Value.okWide Tryz.prog W .any base 24 v) (h : DataW.Trod enc Tryz.prog W 0 (fun _ => true) true 24 v d ps) (hb : Rows.uptoBulk d ≤ 1048576) :
    ∃ (vs vu : Value) (AP : Option Addr) (cP : Nat) (sh up pa : List Bytes) (self key : Bytes) (tries : Int), v = .agg (caseC vs vu (.slice AP pa.length cP) self key tries) ∧ Rd W 1 vs sh.length (strs sh) ∧ Rd W 1 vu up.length (strs up) ∧ Rd W 1 (.slice AP pa.length cP) pa.length (strs pa) ∧ (AP = none → cP = 0) ∧ sumB sh + sumB up + sumB pa ≤ 4611686018427387904 ∧ self.length ≤ 1048576 ∧ key.length ≤ 1048576 := by
  obtain ⟨cs, rfl, hsz⟩ := okWide_struct Tryz.underlying24 hv
  have hs6 : cs.size = 6 := hsz.trans (by kernel_rfl)
  obtain ⟨fuel, hf⟩ := h
  have hf' : DataW.trod enc Tryz.prog W 0 (fun _ => true) true fuel 24 cs.toList = some (d, ps) := hf
  obtain ⟨y0, y1, y2, y3, y4, y5, n, hx, h0, h1, h2, h3, h4, h5⟩ := trod_struct6 Tryz.underlying24 hf'
  obtain ⟨c0, c1, c2, c3, c4, c5, rfl⟩ : ∃ c0 c1 c2 c3 c4 c5, cs = #[c0, c1, c2, c3, c4, c5] := by
    match cs, hs6 with
    | ⟨[a, b, c, d, e, f]⟩, _ => exact ⟨a, b, c, d, e, f, rfl⟩
  have h0' : DataW.trod enc Tryz.prog W 0 (fun _ => true) true n 22 [c0] = some y0 := h0
  have h1' : DataW.trod enc Tryz.prog W 0 (fun _ => true) true n 22 [c1] = some y1 := h1
  have h2' : DataW.trod enc Tryz.prog W 0 (fun _ => true) true n 22 [c2] = some y2 := h2
  have h3' : DataW.trod enc Tryz.prog W 0 (fun _ => true) true n 9 [c3] = some y3 := h3
  have h4' : DataW.trod enc Tryz.prog W 0 (fun _ => true) true n 9 [c4] = some y4 := h4
  have h5' : DataW.trod enc Tryz.prog W 0 (fun _ => true) true n 3 [c5] = some y5 := h5
  obtain ⟨s3, hs3, hy3, -⟩ := DataW.trod_string Tryz.underlying9 h3'
  obtain ⟨s4, hs4, hy4, -⟩ := DataW.trod_string Tryz.underlying9 h4'
  obtain ⟨i5, hi5, -, -⟩ := DataW.trod_int Tryz.underlying3 h5'
  obtain rfl : c3 = .string s3 := by simpa using hs3
  obtain rfl : c4 = .string s4 := by simpa using hs4
  obtain rfl : c5 = .int .i64 i5 := by simpa using hi5
  have hd : d = .agg [y0.1, y1.1, y2.1, y3.1, y4.1, y5.1] := hx
  rw [hd] at hb
  have e3 : y3.1 = .lit (.string s3.data.toList) := congrArg Prod.fst hy3
  have e4 : y4.1 = .lit (.string s4.data.toList) := congrArg Prod.fst hy4
  simp only [Rows.uptoBulk, Rows.uptoBulkAll] at hb
  have hb3 : s3.data.toList.length ≤ 1048576 := by
    rw [e3] at hb
    simp only [Rows.uptoBulk] at hb
    omega
  have hb4 : s4.data.toList.length ≤ 1048576 := by
    rw [e4] at hb
    simp only [Rows.uptoBulk] at hb
    omega
  obtain ⟨sh, A0, k0, rfl, -, R0, B0⟩ := texts_cell h0' (by omega)
  obtain ⟨up, A1, k1, rfl, -, R1, B1⟩ := texts_cell h1' (by omega)
  obtain ⟨pa, A2, k2, rfl, hn2, R2, B2⟩ := texts_cell h2' (by omega)
  refine ⟨_, _, A2, k2, sh, up, pa, bs s3, bs s4, i5, ?_, R0, R1, R2, hn2, by omega, hb3, hb4⟩
  rw [show caseC (.slice A0 sh.length k0) (.slice A1 up.length k1) (.slice A2 pa.length k2) (bs s3) (bs s4) i5 = #[.slice A0 sh.length k0, .slice A1 up.length k1, .slice A2 pa.length k2, .string (str (bs s3)), .string (str (bs s4)), .int .i64 i5] from rfl, str_bs, str_bs]
end Go.Proofs.YtkcipebpknapkaaGreatDoor.tiIn
