/-
  Layer 31: slices.DeleteFunc over points, with Remove's comparison.
-/
import Derived.Test.YtjjbeahdoblacaaRgSort
import Derived.Test.YtjjbeahdoblacaaShelfSl
import Derived.Deep.MidRow
import Derived.Shelf.SlicesQ.IndexFunc
namespace Go.Proofs.Ytjjbeahdoblacaa
open Go.Shelf Go.RowKit Go.Lib Go.Sort Rg
namespace Rg
/-- All points of other nodes. -/
def offN (x : Nm) (Q : List Pt) : List Pt := Q.filter fun p => decide (p.2 ≠ x)
theorem first_at {x : Nm} : ∀ {Q : List Pt}, (∃ p ∈ Q, p.2 = x) → ∃ k, ∃ hk : k < Q.length, Q[k].2 = x ∧ offN x (Q.take k) = Q.take k ∧ ∀ j, (hj : j < k) → (Q[j]'(by omega)).2 ≠ x
  | [], h => by obtain ⟨p, hp, _⟩ := h; cases hp
  | q :: Q, h => by
    by_cases hq : q.2 = x
    · exact ⟨0, by simp, hq, rfl, fun j hj => by omega⟩
    · have : ∃ p ∈ Q, p.2 = x := by
        obtain ⟨p, hp, e⟩ := h
        rcases List.mem_cons.1 hp with rfl | hp
        · exact absurd e hq
        · exact ⟨p, hp, e⟩
      obtain ⟨k, hk, e, ht, hf⟩ := first_at this
      refine ⟨k + 1, by simp; omega, e, ?_, fun j hj => ?_⟩
      · rw [List.take_succ_cons]
        unfold offN at ht ⊢
        rw [List.filter_cons_of_pos (by simpa using hq), ht]
      · match j, hj with
        | 0, _ => exact hq
        | j + 1, hj => exact hf j (by omega)
theorem offN_take {x : Nm} {Q : List Pt} {k : Nat} (h : k < Q.length) : offN x (Q.take (k + 1)) = offN x (Q.take k) ++ if Q[k].2 = x then [] else [Q[k]] := by
  unfold offN
  rw [← List.take_append_getElem h, List.filter_append]
  congr 1
  split
  · rename_i e; rw [List.filter_cons_of_neg (by simpa using e), List.filter_nil]
  · rename_i e; rw [List.filter_cons_of_pos (by simpa using e), List.filter_nil]
/-- Inside the loop: the row of points turns from Q to D. -/
structure DelAt (x : Nm) (Q D : List Pt) (a j : Nat) : Prop where
  len : D.length = Q.length
  aj : a < j
  jl : j ≤ Q.length
  done : D.take a = offN x (Q.take j)
  rest : D.drop j = Q.drop j
theorem DelAt.start {x : Nm} {Q : List Pt} {k : Nat} (hk : k < Q.length) (e : Q[k].2 = x) (ht : offN x (Q.take k) = Q.take k) : DelAt x Q Q k (k + 1) :=
  ⟨rfl, by omega, by omega, by rw [offN_take hk, if_pos e, List.append_nil, ht], rfl⟩
theorem DelAt.at_ {x : Nm} {Q D : List Pt} {a j : Nat} (h : DelAt x Q D a j) (hj : j < Q.length) : D[j]'(by rw [h.len]; exact hj) = Q[j] := by
  have := congrArg (fun l => l[0]?) h.rest
  simp only [List.getElem?_drop, Nat.add_zero] at this
  rw [List.getElem?_eq_getElem (by rw [h.len]; exact hj), List.getElem?_eq_getElem hj] at this
  exact Option.some.inj this
theorem DelAt.skip {x : Nm} {Q D : List Pt} {a j : Nat} (h : DelAt x Q D a j) (hj : j < Q.length) (e : Q[j].2 = x) : DelAt x Q D a (j + 1) :=
  ⟨h.len, by have := h.aj; omega, by omega, by rw [offN_take hj, if_pos e, List.append_nil, h.done], by
    have := congrArg (List.drop 1) h.rest
    rwa [List.drop_drop, List.drop_drop] at this⟩
theorem DelAt.keep {x : Nm} {Q D : List Pt} {a j : Nat} (h : DelAt x Q D a j) (hj : j < Q.length) (e : Q[j].2 ≠ x) : DelAt x Q (D.set a Q[j]) (a + 1) (j + 1) := by
  have haj := h.aj
  have hl := h.len
  refine ⟨by rw [List.length_set, hl], by omega, by omega, ?_, ?_⟩
  · rw [offN_take hj, if_neg e, ← h.done]
    have ha : a < (D.set a Q[j]).length := by rw [List.length_set]; omega
    rw [← List.take_append_getElem ha, List.getElem_set_self, List.take_set_of_le (Nat.le_refl _)]
  · rw [List.drop_set_of_lt (by omega)]
    have := congrArg (List.drop 1) h.rest
    rwa [List.drop_drop, List.drop_drop] at this
theorem DelAt.end_ {x : Nm} {Q D : List Pt} {a : Nat} (h : DelAt x Q D a Q.length) : D.take a = offN x Q := by rw [h.done, List.take_length]
end Rg
theorem pred_rm (x : Nm) (R : Nat) (w : World) (hR : w.cell? ⟨R, 0, none⟩ = some (.string (str x))) :
    PredBelow Try.prog 38 #[.pointer (some ⟨R, 0, none⟩)] (fun p : Pt => .agg (encP p).toArray) (fun p => decide (p.2 = x)) w := by
  intro W p hb
  have hB : R < w.heap.size := cell_lt hR
  have hB' := hb.size
  have hR' := (hb.cell (p := ⟨R, 0, none⟩) hB).trans hR
  have hlt : R < W.heap.size := by omega
  clear hR hB
  have hc : ((str p.2).toList == (str x).toList) = decide (p.2 = x) := by rw [str_toList, str_toList]; by_cases h : p.2 = x <;> simp [h]
  show Calls Try.prog 38 #[.agg #[.int .u64 p.1, .string (str p.2)], .pointer (some ⟨R, 0, none⟩)] W fun e w' => e = .returned (.bool (decide (p.2 = x))) ∧ Below w.heap.size w w'
  rw [← hc]
  generalize p.2 = y
  generalize p.1 = z
  clear hc
  go_enter Try.func38, Try.ntmps38
  go_wp2
  go_ret
  exact ⟨rfl, hb.alloc hb.size _⟩
/-- slices.IndexFunc with it. -/
theorem index_rm (x : Nm) (R g cap k : Nat) (Q : List Pt) (w : World) (hR : w.cell? ⟨R, 0, none⟩ = some (.string (str x))) (hS : Shp w g 71 (cap * 2)) (hq : ∀ j u, (pvs Q)[j]? = some u → w.cell? ⟨g, j, none⟩ = some u) (hQ : Q.length ≤ 1000000)
    (hk : k < Q.length) (he : Q[k].2 = x) (hf : ∀ j, (hj : j < k) → (Q[j]'(by omega)).2 ≠ x) :
    Calls Try.prog 50 #[.slice (some ⟨g, 0, none⟩) Q.length cap, .func (.func 38) #[] #[.pointer (some ⟨R, 0, none⟩)]] w fun e w' => e = .returned (.int .i64 (k : Int)) ∧ Below w.heap.size w w' := by
  have h := AnyQ.slices_IndexFunc Try.lh6 2 (fun _ => by kernel_rfl) (fun _ => by kernel_rfl) encP (fun _ => rfl) (fun p => decide (p.2 = x)) 38 #[.pointer (some ⟨R, 0, none⟩)]
    (enters_of Try.func38 (by kernel_rfl) rfl) g 0 Q.length cap Q w (pred_rm x R w hR) (Nat.le_refl _) (by omega) hS.lt (fun j hj i v hi => by
      rw [Nat.zero_add]
      rw [getElem!_pos Q j hj] at hi
      match i, hi with
      | 0, hi => simp [encP] at hi; rw [← hi]; exact hq _ _ (pvs_at0 hj)
      | 1, hi => simp [encP] at hi; rw [← hi]; exact hq _ _ (pvs_at1 hj)
      | i + 2, hi => simp [encP] at hi)
  rw [Lib.idxBy_hit (fun _ (p : Pt) => decide (p.2 = x)) Q Q.length k default hk (Nat.le_refl _) (by rw [getElem!_pos Q k hk]; exact decide_eq_true he) (fun j hj => by rw [getElem!_pos Q j (by omega)]; exact decide_eq_false (hf j hj))] at h
  exact h
end Go.Proofs.Ytjjbeahdoblacaa
