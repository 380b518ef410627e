/-
  Plain: for RingOrder.
-/
import Derived.Test.YtjjbeahdoblacaaRgTwo
import Derived.Test.YtjjbeahdoblacaaRgDel
namespace Go.Proofs.Ytjjbeahdoblacaa
namespace Rg
theorem asc_uniq : ∀ {a b : List Nm}, Asc a → Asc b → a.Perm b → a = b
  | [], b, _, _, h => (List.nil_perm.1 h).symm
  | x :: a, [], _, _, h => absurd h.length_eq (by simp)
  | x :: a, y :: b, ha, hb, h => by
    have hxy : x = y := by
      have h1 : x ∈ y :: b := h.subset (List.mem_cons_self ..)
      have h2 : y ∈ x :: a := h.symm.subset (List.mem_cons_self ..)
      rcases List.mem_cons.1 h1 with e | h1
      · exact e
      · rcases List.mem_cons.1 h2 with e | h2
        · exact e.symm
        · exact absurd (List.lt_trans ((List.pairwise_cons.1 ha).1 y h2) ((List.pairwise_cons.1 hb).1 x h1)) (List.lt_irrefl _)
    subst hxy
    rw [asc_uniq (List.pairwise_cons.1 ha).2 (List.pairwise_cons.1 hb).2 ((List.perm_cons x).1 h)]
theorem ptsOf_perm {L L' : List Nd} (h : L.Perm L') : ptsOf L = ptsOf L' := srt_congr (h.flatMap_right _)
theorem erase_asc {N : List Nm} (h : Asc N) (k : Nat) : Asc (N.eraseIdx k) := List.Pairwise.sublist (List.eraseIdx_sublist N k) h
/-- The names without one. -/
theorem erase_names {L L' : List Nd} {x : Nm} {n : Nat} (hg : Good L) (hg' : Good L') (h : L.Perm ((x, n) :: L')) : (ascOf L).eraseIdx (pos (ascOf L) x) = ascOf L' := by
  have hx : x ∈ ascOf L := hg.mem.2 (List.mem_map.2 ⟨(x, n), h.symm.subset (List.mem_cons_self ..), rfl⟩)
  obtain ⟨hk, he⟩ := (pos_mem hg.asc).1 hx
  refine asc_uniq (erase_asc hg.asc _) hg'.asc ?_
  have h1 : ((ascOf L)[pos (ascOf L) x] :: (ascOf L).eraseIdx (pos (ascOf L) x)).Perm (ascOf L) := by
    have := List.perm_middle (a := (ascOf L)[pos (ascOf L) x]) (l₁ := (ascOf L).take (pos (ascOf L) x)) (l₂ := (ascOf L).drop (pos (ascOf L) x + 1))
    rw [List.getElem_cons_drop, List.take_append_drop] at this
    rw [List.eraseIdx_eq_take_drop_succ]
    exact this.symm
  rw [he] at h1
  have h2 : (ascOf L).Perm (x :: ascOf L') := (hg.perm.trans (h.map (·.1))).trans (List.Perm.cons x hg'.perm.symm)
  exact (List.perm_cons x).1 (h1.trans h2)
theorem offN_ptsOf {L : List Nd} (hg : Good L) (x : Nm) : offN x (ptsOf L) = ptsOf (L.filter fun y => decide (y.1 ≠ x)) := ptsOf_filter (fun y hy => (hg.wt y hy).1) x
def nmGuest : Nm := [103, 117, 101, 115, 116]
theorem mkL_guest {l : List (Nat × Nat)} : nmGuest ∉ (mkL l).map (·.1) := fun h => by
  obtain ⟨y, hy, e⟩ := List.mem_map.1 h
  obtain ⟨n, hn⟩ := mkL_nm hy
  rw [e] at hn
  have := (List.cons.inj hn).1
  exact absurd this (by decide)
/-- The other ring inside the loop: m nodes are to be added. -/
def gl (L : List Nd) (g m : Nat) : List Nd := (nmGuest, g) :: (L.drop m).reverse
theorem gl_step {L : List Nd} {g m : Nat} (h : m < L.length) : gl L g m = gl L g (m + 1) ++ [L[m]] := by
  unfold gl
  rw [List.drop_eq_getElem_cons h, List.reverse_cons, List.cons_append]
theorem gl_new {L : List Nd} (hg : Good L) (hn : nmGuest ∉ L.map (·.1)) {g m : Nat} (h : m < L.length) : L[m].1 ∉ (gl L g (m + 1)).map (·.1) := by
  intro hx
  unfold gl at hx
  rw [List.map_cons, List.map_reverse] at hx
  rcases List.mem_cons.1 hx with e | hx
  · exact hn (List.mem_map.2 ⟨L[m], List.getElem_mem h, e⟩)
  · rw [List.mem_reverse, List.map_drop] at hx
    have hnd := hg.nd
    have hl : m < (L.map (·.1)).length := by rw [List.length_map]; exact h
    rw [← List.take_append_drop m (L.map (·.1)), List.nodup_append, List.drop_eq_getElem_cons hl] at hnd
    exact (List.nodup_cons.1 hnd.2.1).1 (by rw [List.getElem_map]; exact hx)
theorem gl_all {L : List Nd} {g : Nat} : (gl L g 0).Perm ((nmGuest, g) :: L) := List.Perm.cons _ (List.reverse_perm L)
theorem gl_less {L : List Nd} {g : Nat} (hn : nmGuest ∉ L.map (·.1)) : ptsOf ((gl L g 0).filter fun y => decide (y.1 ≠ nmGuest)) = ptsOf L := by
  unfold gl
  rw [List.filter_cons_of_neg (by simp), List.drop_zero, List.filter_eq_self.2 (fun y hy => by
    simp only [decide_eq_true_eq]
    exact fun e => hn (List.mem_map.2 ⟨y, List.mem_reverse.1 hy, e⟩))]
  exact ptsOf_perm (List.reverse_perm L)
end Rg
end Go.Proofs.Ytjjbeahdoblacaa
