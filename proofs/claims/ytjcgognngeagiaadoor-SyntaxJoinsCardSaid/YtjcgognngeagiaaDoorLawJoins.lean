/-
  SyntaxJoins.
-/
import Derived.Test.YtjcgognngeagiaaDoorLaid
import Derived.Test.YtjcgognngeagiaaDoorJWalk
import Derived.Test.YtjcgognngeagiaaDoorCards
import Derived.Test.YtjcgognngeagiaaDoorTie
import Derived.Deep.DeepHandedRow
import Derived.Lib.LaidTab
import Derived.ShutString
import Derived.ChangeOld
import Derived.Below
import Derived.Deep.SlicePairs
import Derived.SizedLaws
namespace Go.Proofs.YtjcgognngeagiaaDoor.syntaxJoins
open Go.ChangeShapes Go.WideShapes Go.ChangeAt Go.RowKit Syn
open Go.ChangeMaps (open_string shut_string)


theorem cell_plain {w : World} {a : Addr} {v : Value} (h : w.cell? a = some v) : a = ⟨a.block, a.off, none⟩ := by
  have := World.cell?_spot h
  cases a
  simp_all
theorem add_flat (b o i : Nat) : (⟨b, o, none⟩ : Addr).add i = ⟨b, o + i, none⟩ := by unfold Addr.add; split <;> simp_all
theorem weights_all {H : Type} {P : Program} {e : TypeId} {d : DataW H} {n : Nat} : ∀ {l : List (DataW H)}, d ∈ l → n ∈ d.weights P e → n ∈ DataW.weightsAll P e l
  | x :: l, h, hn => by
    simp only [DataW.weightsAll, List.mem_append]
    rcases List.mem_cons.1 h with rfl | h
    · exact .inl hn
    · exact .inr (weights_all h hn)
def bytesV : Value → List UInt8
  | .string s => bs s
  | _ => []
/-- A slice of pairs of texts that came in. -/
theorem pairs_in {H : Type} {enc : TypeId × Value → H} {W : World} {base : Nat} {v : Value} {d : DataW H} {ps : List MemPlace}
    (hv : Value.okWide Tryd.prog W .any base 49 v) (h : DataW.Trod enc Tryd.prog W 0 (fun _ => true) true 49 v d ps) (hw : ∀ n ∈ d.weights Tryd.prog 49, n ≤ reachBytes) :
    ∃ l : List (List UInt8 × List UInt8), Rd W 2 v l.length (prs l) ∧ (∀ p ∈ l, p.1.length ≤ 140737488355328 ∧ p.2.length ≤ 140737488355328) ∧ l.length ≤ maxLen := by
  obtain ⟨A, len, cap, rfl⟩ := okWide_slice Tryd.underlying49 hv
  obtain ⟨fuel, hf⟩ := h
  rcases Go.Deep.open_slice_pairs Tryd.underlying49 Tryd.underlying54 (by kernel_rfl) rfl rfl (by kernel_rfl) (by kernel_rfl) hf with ⟨hcs, _⟩ | ⟨a, n, c, m, fu, V0, V1, D0, D1, P0, P1, hcs, _, hl, hm, hmm, hx, hcell⟩
  · simp [Value.cells] at hcs
    obtain ⟨rfl, rfl, rfl⟩ := hcs
    exact ⟨[], Rd.nil W 2, by simp, by simp⟩
  · simp [Value.cells] at hcs
    obtain ⟨rfl, rfl, rfl⟩ := hcs
    have hnm : len ≤ m := by rw [hmm]; simp; omega
    have each : ∀ i, i < len → ∃ x y : ByteArray, V0 i = .string x ∧ V1 i = .string y ∧ D0 i = .lit (.string x.data.toList) ∧ D1 i = .lit (.string y.data.toList) := fun i hi => by
      obtain ⟨-, -, t0, t1⟩ := hcell i (by omega)
      obtain ⟨x, hx1, hx2, -⟩ := DataW.trod_string Tryd.underlying9 t0
      obtain ⟨y, hy1, hy2, -⟩ := DataW.trod_string Tryd.underlying9 t1
      simp only [Prod.mk.injEq] at hx2 hy2
      exact ⟨x, y, by simpa using hx1, by simpa using hy1, hx2.1, hy2.1⟩
    have hd : d = .slice ((List.range len).map fun i => .agg [D0 i, D1 i]) ((List.range (m - len)).map fun j => .agg [D0 (len + j), D1 (len + j)]) := congrArg Prod.fst hx
    subst hd
    have hlen : ((List.range len).map fun i => (bytesV (V0 i), bytesV (V1 i))).length = len := by simp
    refine ⟨(List.range len).map fun i => (bytesV (V0 i), bytesV (V1 i)), ?_, ?_, ?_⟩
    · rw [hlen]
      refine ⟨_, _, rfl, hl, by rw [prs_length, hlen], fun hn => ?_⟩
      have ha : a = ⟨a.block, a.off, none⟩ := by
        have h0 := (hcell 0 (by omega)).1
        have : a.add (0 * 2) = a := by unfold Addr.add; simp
        rw [this] at h0
        exact cell_plain h0
      refine ⟨a.block, a.off, congrArg some ha, cell_lt (a := a.add (0 * 2)) (hcell 0 (by omega)).1 |> fun h => by simpa [Addr.add] using h, fun j u hu => ?_⟩
      have hj : j / 2 < len := by
        rcases Nat.lt_or_ge (j / 2) len with h | h
        · exact h
        · rw [List.getElem?_eq_none (by rw [prs_length, hlen]; omega)] at hu; cases hu
      have hj2 : j / 2 < ((List.range len).map fun i => (bytesV (V0 i), bytesV (V1 i))).length := by rw [hlen]; exact hj
      obtain ⟨x, y, e0, e1, -, -⟩ := each (j / 2) hj
      obtain ⟨c0, c1, -, -⟩ := hcell (j / 2) (by omega)
      rw [ha, add_flat] at c0 c1
      rcases Nat.mod_two_eq_zero_or_one j with hr | hr
      · have ej : j = j / 2 * 2 := by omega
        rw [ej, prs_at0 hj2] at hu
        simp only [List.getElem_map, List.getElem_range] at hu
        rw [ej, c0, ← hu, e0]
        show some (Value.string x) = some (.string (str (bs x)))
        rw [str_bs]
      · have ej : j = j / 2 * 2 + 1 := by omega
        rw [ej, prs_at1 hj2] at hu
        simp only [List.getElem_map, List.getElem_range] at hu
        rw [ej, c1, ← hu, e1]
        show some (Value.string y) = some (.string (str (bs y)))
        rw [str_bs]
    · intro p hp
      rw [List.mem_map] at hp
      obtain ⟨i, hi, rfl⟩ := hp
      rw [List.mem_range] at hi
      obtain ⟨x, y, e0, e1, f0, f1⟩ := each i hi
      have hmem : DataW.agg (H := H) [D0 i, D1 i] ∈ (List.range len).map fun i => DataW.agg [D0 i, D1 i] := List.mem_map.2 ⟨i, List.mem_range.2 hi, rfl⟩
      have hwa : DataW.weights Tryd.prog 54 (DataW.agg (H := H) [D0 i, D1 i]) = [x.data.toList.length, y.data.toList.length] := by
        rw [f0, f1]; simp [DataW.weights, Tryd.underlying54, DataW.weightsEach]
      have hin : ∀ n, n ∈ [x.data.toList.length, y.data.toList.length] → n ≤ reachBytes := fun n hn => by
        refine hw n ?_
        simp only [DataW.weights, Tryd.underlying49, List.mem_cons, List.mem_append]
        exact .inr (.inl (weights_all hmem (by rw [hwa]; exact hn)))
      have r1 := hin x.data.toList.length (by simp)
      have r2 := hin y.data.toList.length (by simp)
      have hre : reachBytes ≤ 140737488355328 := by decide
      show (bytesV (V0 i)).length ≤ _ ∧ (bytesV (V1 i)).length ≤ _
      rw [e0, e1]
      exact ⟨Nat.le_trans r1 hre, Nat.le_trans r2 hre⟩
    · rw [hlen]; omega
theorem contract (H : Type) (enc : TypeId × Value → H) (W : World) (base : Nat) (args : Array Value) (ds gs : List (DataW H)) (before : List MemPlace)
    (hval0 : ∀ (j : Nat) t v, Tryd.f10.params[j]? = some t → args[j]? = some v → Value.okWide Tryd.prog W .any base t v)
    (hW : DataW.Whole enc Tryd.prog Tryd.f10.params.toList Rows.syntaxJoinsSpec.vars false W args.toList ds gs before)
    (hz : (DataW.weightsEach Tryd.prog (Tryd.f10.params.toList ++ (OpenSpec.ofChange Rows.syntaxJoinsSpec).bare.plain.varTypes Tryd.prog) (ds ++ gs)).all (· ≤ reachBytes) = true) :
    Calls Tryd.prog 10 args W fun e W' => ∃ v, e = .returned v ∧ Rows.syntaxJoinsSpec.post enc Tryd.prog Tryd.f10 false true false false W args v W' := by
  have hval : ∀ (j : Nat) t v, Tryd.f10.params[j]? = some t → args[j]? = some v → Value.okWide Tryd.prog W .any base t v := hval0
  have hW' := hW
  obtain ⟨p, q, hA0, hV, rfl, hfz, hnd⟩ := hW
  have hA : DataW.TrodAll enc Tryd.prog W 0 (fun _ => true) true Tryd.f10.params.toList args.toList ds p := hA0
  rw [Tryd.params10] at hA hval hz
  obtain ⟨v0, vs0, d0, ds0, p0, q0, hargs, rfl, rfl, h0, r0⟩ := trodAll_cons hA
  obtain ⟨v1, vs1, d1, ds1, p1, q1, rfl, rfl, rfl, h1, r1⟩ := trodAll_cons r0
  obtain ⟨rfl, rfl, rfl⟩ := trodAll_nil r1
  obtain rfl : args = #[v0, v1] := by cases args; simp_all
  obtain ⟨rfl, rfl⟩ := trodVars_none hV
  have k0 := h0
  have lt0 : ∀ x ∈ p0, x.block < W.heap.size := by obtain ⟨m, hm⟩ := k0; exact DataW.trod_lt m _ _ _ hm
  have k1 := h1
  have lt1 : ∀ x ∈ p1, x.block < W.heap.size := by obtain ⟨m, hm⟩ := k1; exact DataW.trod_lt m _ _ _ hm
  have hw1 : ∀ n ∈ d1.weights Tryd.prog 49, n ≤ reachBytes := fun n hn => by
    have := List.all_eq_true.1 hz n (DataW.weights_mem_each (j := 1) rfl rfl n hn)
    simpa using this
  obtain ⟨a0, rfl, e0, _, w0⟩ := open_string Tryd.underlying9 (hval 0 9 v0 rfl rfl) h0
  obtain ⟨l, R1, B1, N1⟩ := pairs_in (hval 1 49 v1 rfl rfl) h1 hw1
  clear hA0 hval0
  refine (joins_walk a0 l v1 W w0 R1 B1 N1).mono fun e W' ⟨he, bel⟩ => ?_
  subst he
  exact ⟨_, rfl, _, _, _, [], _, [], hW', trodAll_mk1 (shut_bool Tryd.underlying4 _), (trodAll_cons_mk (Below.trod laidOut (by kernel_rfl) (of_decide_eq_true (by kernel_rfl)) k0 bel lt0) (trodAll_cons_mk (Below.trod laidOut (by kernel_rfl) (of_decide_eq_true (by kernel_rfl)) k1 bel lt1) trodAll_mk0)), rfl, bel.frame _, fun h => by cases h⟩

theorem laid_met (os : Os) : laidMet Tryd.prog Rows.syntaxJoinsRow.laid ((laidWorld os).forCall (fun _ _ => 0) ⟨#[], #[.string ByteArray.empty, .slice none 0 0], []⟩).memory :=
  laidMet_of_run' 8 (by kernel_rfl) (by kernel_rfl)
theorem reads (os : Os) {H : Type} (enc : TypeId × Value → H) : ∃ places, DataW.whole enc Tryd.prog ((laidWorld os).forCall (fun _ _ => 0) ⟨#[], #[.string ByteArray.empty, .slice none 0 0], []⟩).memory Tryd.f10.params.toList Rows.syntaxJoinsSpec.vars false #[Value.string ByteArray.empty, Value.slice none 0 0].toList 8 = some ([.lit (.string []), .nil], [], places) :=
  ⟨[], by kernel_rfl⟩
set_option maxRecDepth 100000 in
theorem lifted (os : Os) (started : os.Started) (H : Type) (enc : TypeId × Value → H) (F : Stop.Interp) :
    ReturnsInHanded {} Tryd.checked os 10 .any ((OpenSpec.ofChange Rows.syntaxJoinsSpec).preRow enc Tryd.prog Tryd.f10 Rows.syntaxJoinsRow.domain false Rows.syntaxJoinsRow.laid) (((OpenSpec.ofChange Rows.syntaxJoinsSpec).at F).post enc Tryd.prog Tryd.f10 false true false false) := by
  obtain ⟨places, hx⟩ := reads os enc
  refine returnsInHanded_of_row (C := Tryd.checked) (s := OpenSpec.ofChange Rows.syntaxJoinsSpec) own started (by kernel_rfl) Tryd.func10
    (witness_row_at (enc := enc) (C := Tryd.checked) false (laidWorld os) #[.string ByteArray.empty, .slice none 0 0] rfl (by kernel_rfl) (by kernel_rfl) (by kernel_rfl)
      (OpenSpec.preRow_of_cond 8 hx (by kernel_rfl) (fun k hk => by cases hk) (by kernel_rfl) (laid_met os))) ?_
  intro W base args ds gs before hval hW _ _ hz hL _ _
  exact contract H enc W base args ds gs before hval hW hz
theorem said : Rows.SyntaxJoinsSaid :=
  OpenClaim.holds_of_cond 10 Tryd.f10 rfl rfl rfl rfl rfl rfl rfl ⟨rfl, rfl, rfl, rfl, rfl⟩ rfl rfl rfl rfl rfl (by kernel_rfl) Tryd.func10 (by kernel_rfl)
    (of_decide_eq_true (by kernel_rfl)) (by unfold Func.isWrapper; first | (rw [if_pos (by decide +kernel)]; kernel_rfl) | (rw [if_neg (by decide +kernel)]; exact ⟨rfl, rfl⟩))
    (fun os started H enc _ F => by rw [OpenClaim.pre_eq_preRow]; exact lifted os started H enc F)
theorem plain (f : FuncId) (fn : Func) (hf : Tryd.pinned.checked.prog.funcNamed "quayside/quaysidelaw01.SyntaxJoins" = some f) (hfn : Tryd.pinned.checked.prog.funcs[f]? = some fn) :
    true = Tryd.pinned.checked.prog.looks [] ∧ ∀ (j : Nat) t, fn.params[j]? = some t → Tryd.pinned.checked.prog.wantsStandIn t = false := by
  obtain rfl : f = 10 := Option.some.inj ((show Tryd.prog.funcNamed "quayside/quaysidelaw01.SyntaxJoins" = some 10 by kernel_rfl).symm.trans hf) |>.symm
  obtain rfl : fn = Tryd.f10 := (Option.some.inj (Tryd.func10.symm.trans hfn)).symm
  refine ⟨by kernel_rfl, fun j t ht => ?_⟩
  rw [Tryd.params10] at ht
  have hm := Array.mem_of_getElem? ht
  simp at hm
  rcases hm with rfl | rfl <;> exact (show Tryd.prog.wantsStandIn _ = false by kernel_rfl)
theorem card : Rows.SyntaxJoinsCardSaid :=
  Claim7.holds_tied_plain_at .later [] _ _ _ _ said (fun _ h => by cases h) (by kernel_rfl) (fun _ h => by cases h) syntaxJoins_row_tie rfl ⟨rfl, rfl⟩ (by kernel_rfl) rfl plain (by kernel_rfl)
end Go.Proofs.YtjcgognngeagiaaDoor.syntaxJoins
