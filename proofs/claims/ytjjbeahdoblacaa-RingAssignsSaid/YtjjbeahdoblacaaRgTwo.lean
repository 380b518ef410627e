/-
  Plain: names of the laws' lists; what a node that is added changes.
-/
import Derived.Test.YtjjbeahdoblacaaRgUse
namespace Go.Proofs.Ytjjbeahdoblacaa
namespace Rg
theorem fold_nm : ∀ (l : List (Nat × Nat)) (L : List Nd), (∀ x ∈ L, ∃ n, x.1 = nmOf n) → ∀ x ∈ l.foldl stepL L, ∃ n, x.1 = nmOf n
  | [], L, h => h
  | y :: l, L, h => by
    refine fold_nm l (stepL L y) (fun x hx => ?_)
    unfold stepL at hx
    split at hx
    · exact h x hx
    · rcases List.mem_append.1 hx with hx | hx
      · exact h x hx
      · rw [List.mem_singleton] at hx; subst hx; exact ⟨_, rfl⟩
theorem mkL_nm {l : List (Nat × Nat)} {x : Nd} (h : x ∈ mkL l) : ∃ n, x.1 = nmOf n := fold_nm l [] (by simp) x h
/-- A name that is no list's. -/
theorem mkL_other {l : List (Nat × Nat)} {x : Nm} (hx : x.length ≠ 5) : x ∉ (mkL l).map (·.1) := fun h => by
  obtain ⟨y, hy, rfl⟩ := List.mem_map.1 h
  obtain ⟨n, hn⟩ := mkL_nm hy
  rw [hn] at hx; exact hx rfl
theorem allPts_filter {L : List Nd} (hg : ∀ y ∈ L, 1 ≤ y.2) (x : Nm) : (allPts L).filter (fun p => decide (p.2 ≠ x)) = allPts (L.filter fun y => decide (y.1 ≠ x)) := by
  induction L with
  | nil => rfl
  | cons y L ih =>
    have ih := ih (fun z hz => hg z (List.mem_cons_of_mem _ hz))
    unfold allPts at ih ⊢
    rw [List.flatMap_cons, List.filter_append, ih]
    by_cases h : y.1 = x
    · rw [List.filter_cons_of_neg (by simpa using h), List.filter_eq_nil_iff.2 (fun p hp => by rw [pts1_mem hp]; simpa using h), List.nil_append]
    · rw [List.filter_cons_of_pos (by simpa using h), List.flatMap_cons, List.filter_eq_self.2 (fun p hp => by rw [pts1_mem hp]; simpa using h)]
/-- The points without a node's. -/
theorem ptsOf_filter {L : List Nd} (hg : ∀ y ∈ L, 1 ≤ y.2) (x : Nm) : (ptsOf L).filter (fun p => decide (p.2 ≠ x)) = ptsOf (L.filter fun y => decide (y.1 ≠ x)) := by
  unfold ptsOf
  rw [srt_filter, allPts_filter hg]
/-- The owners without a node. -/
theorem own_less {L : List Nd} (hg : ∀ y ∈ L, 1 ≤ y.2) (x : Nm) (h : Int) : (own (ptsOf L) h).filter (fun y => decide (y ≠ x)) = own (ptsOf (L.filter fun y => decide (y.1 ≠ x))) h := by
  rw [← ptsOf_filter hg, ← own_filter]
theorem filter_snoc {L : List Nd} {x : Nm} {n : Nat} (hx : x ∉ L.map (·.1)) : (L ++ [(x, n)]).filter (fun y => decide (y.1 ≠ x)) = L := by
  rw [List.filter_append, List.filter_cons_of_neg (by simp), List.filter_nil, List.append_nil]
  exact List.filter_eq_self.2 (fun y hy => by simp only [decide_eq_true_eq]; exact fun e => hx (List.mem_map.2 ⟨y, hy, e⟩))
/-- .. behind Add. -/
theorem own_added {L : List Nd} (hg : Good L) {x : Nm} {n : Nat} (hx : x ∉ L.map (·.1)) (h1 : 1 ≤ n) (h : Int) : (own (ptsOf (L ++ [(x, n)])) h).filter (fun y => decide (y ≠ x)) = own (ptsOf L) h := by
  rw [own_less (fun y hy => ?_), filter_snoc hx]
  rcases List.mem_append.1 hy with hy | hy
  · exact (hg.wt y hy).1
  · rw [List.mem_singleton] at hy; subst hy; exact h1
/-- The first of them. -/
theorem first_of {a b x : Nm} {s t : List Nm} (h : (a :: s).filter (fun y => decide (y ≠ x)) = b :: t) : a = x ∨ a = b := by
  by_cases ha : a = x
  · exact Or.inl ha
  · rw [List.filter_cons_of_pos (by simpa using ha)] at h
    exact Or.inr (List.cons.inj h).1
theorem take_filter {O : List Nm} {x : Nm} {k : Nat} (h : k < O.length) : (O.take (k + 1)).filter (fun y => decide (y ≠ x)) = (O.take k).filter (fun y => decide (y ≠ x)) ++ if O[k] = x then [] else [O[k]] := by
  rw [← List.take_append_getElem h, List.filter_append]
  congr 1
  split
  · rename_i e; rw [List.filter_cons_of_neg (by simpa using e), List.filter_nil]
  · rename_i e; rw [List.filter_cons_of_pos (by simpa using e), List.filter_nil]
end Rg
end Go.Proofs.Ytjjbeahdoblacaa
