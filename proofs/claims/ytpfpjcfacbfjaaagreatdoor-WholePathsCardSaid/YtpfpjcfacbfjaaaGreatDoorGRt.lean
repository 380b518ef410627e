/-
  Several texts in one: RgTwo, RgOrdP.
-/
import Derived.Test.YtpfpjcfacbfjaaaGreatDoorRgUse
import Derived.Test.YtpfpjcfacbfjaaaGreatDoorGRd
/-
  Plain: names of the laws' lists; what a node that is added changes.
-/
namespace Go.Proofs.YtpfpjcfacbfjaaaGreatDoor
namespace Rg
theorem fold_nm : ∀ (l : List (Nat × Nat)) (L : List Nd), (∀ x ∈ L, ∃ n, x.1 = nmOf n) → ∀ x ∈ l.foldl stepL L, ∃ n, x.1 = nmOf n
  | [], L, h => h
  | y :: l, L, h => by
    refine fold_nm l (stepL L y) (fun x hx => ?_)
    unfold stepL at hx
    split at hx
    · exact h x hx
    · rcases List.mem_append.1 hx with hx | hx
      · exact h x hx
      · rw [List.mem_singleton] at hx; subst hx; exact ⟨_, rfl⟩
theorem mkL_nm {l : List (Nat × Nat)} {x : Nd} (h : x ∈ mkL l) : ∃ n, x.1 = nmOf n := fold_nm l [] (by simp) x h
/-- A name that is no list's. -/
theorem mkL_other {l : List (Nat × Nat)} {x : Nm} (hx : x.length ≠ 5) : x ∉ (mkL l).map (·.1) := fun h => by
  obtain ⟨y, hy, rfl⟩ := List.mem_map.1 h
  obtain ⟨n, hn⟩ := mkL_nm hy
  rw [hn] at hx; exact hx rfl
theorem allPts_filter {L : List Nd} (hg : ∀ y ∈ L, 1 ≤ y.2) (x : Nm) : (allPts L).filter (fun p => decide (p.2 ≠ x)) = allPts (L.filter fun y => decide (y.1 ≠ x)) := by
  induction L with
  | nil => rfl
  | cons y L ih =>
    have ih := ih (fun z hz => hg z (List.mem_cons_of_mem _ hz))
    unfold allPts at ih ⊢
    rw [List.flatMap_cons, List.filter_append, ih]
    by_cases h : y.1 = x
    · rw [List.filter_cons_of_neg (by simpa using h), List.filter_eq_nil_iff.2 (fun p hp => by rw [pts1_mem hp]; simpa using h), List.nil_append]
    · rw [List.filter_cons_of_pos (by simpa using h), List.flatMap_cons, List.filter_eq_self.2 (fun p hp => by rw [pts1_mem hp]; simpa using h)]
/-- The points without a node's. -/
theorem ptsOf_filter {L : List Nd} (hg : ∀ y ∈ L, 1 ≤ y.2) (x : Nm) : (ptsOf L).filter (fun p => decide (p.2 ≠ x)) = ptsOf (L.filter fun y => decide (y.1 ≠ x)) := by
  unfold ptsOf
  rw [srt_filter, allPts_filter hg]
/-- The owners without a node. -/
theorem own_less {L : List Nd} (hg : ∀ y ∈ L, 1 ≤ y.2) (x : Nm) (h : Int) : (own (ptsOf L) h).filter (fun y => decide (y ≠ x)) = own (ptsOf (L.filter fun y => decide (y.1 ≠ x))) h := by
  rw [← ptsOf_filter hg, ← own_filter]
theorem filter_snoc {L : List Nd} {x : Nm} {n : Nat} (hx : x ∉ L.map (·.1)) : (L ++ [(x, n)]).filter (fun y => decide (y.1 ≠ x)) = L := by
  rw [List.filter_append, List.filter_cons_of_neg (by simp), List.filter_nil, List.append_nil]
  exact List.filter_eq_self.2 (fun y hy => by simp only [decide_eq_true_eq]; exact fun e => hx (List.mem_map.2 ⟨y, hy, e⟩))
/-- .. behind Add. -/
theorem own_added {L : List Nd} (hg : Good L) {x : Nm} {n : Nat} (hx : x ∉ L.map (·.1)) (h1 : 1 ≤ n) (h : Int) : (own (ptsOf (L ++ [(x, n)])) h).filter (fun y => decide (y ≠ x)) = own (ptsOf L) h := by
  rw [own_less (fun y hy => ?_), filter_snoc hx]
  rcases List.mem_append.1 hy with hy | hy
  · exact (hg.wt y hy).1
  · rw [List.mem_singleton] at hy; subst hy; exact h1
/-- The first of them. -/
theorem first_of {a b x : Nm} {s t : List Nm} (h : (a :: s).filter (fun y => decide (y ≠ x)) = b :: t) : a = x ∨ a = b := by
  by_cases ha : a = x
  · exact Or.inl ha
  · rw [List.filter_cons_of_pos (by simpa using ha)] at h
    exact Or.inr (List.cons.inj h).1
theorem take_filter {O : List Nm} {x : Nm} {k : Nat} (h : k < O.length) : (O.take (k + 1)).filter (fun y => decide (y ≠ x)) = (O.take k).filter (fun y => decide (y ≠ x)) ++ if O[k] = x then [] else [O[k]] := by
  rw [← List.take_append_getElem h, List.filter_append]
  congr 1
  split
  · rename_i e; rw [List.filter_cons_of_neg (by simpa using e), List.filter_nil]
  · rename_i e; rw [List.filter_cons_of_pos (by simpa using e), List.filter_nil]
end Rg
end Go.Proofs.YtpfpjcfacbfjaaaGreatDoor
/-
  Plain: for RingOrder.
-/
namespace Go.Proofs.YtpfpjcfacbfjaaaGreatDoor
namespace Rg
theorem asc_uniq : ∀ {a b : List Nm}, Asc a → Asc b → a.Perm b → a = b
  | [], b, _, _, h => (List.nil_perm.1 h).symm
  | x :: a, [], _, _, h => absurd h.length_eq (by simp)
  | x :: a, y :: b, ha, hb, h => by
    have hxy : x = y := by
      have h1 : x ∈ y :: b := h.subset (List.mem_cons_self ..)
      have h2 : y ∈ x :: a := h.symm.subset (List.mem_cons_self ..)
      rcases List.mem_cons.1 h1 with e | h1
      · exact e
      · rcases List.mem_cons.1 h2 with e | h2
        · exact e.symm
        · exact absurd (List.lt_trans ((List.pairwise_cons.1 ha).1 y h2) ((List.pairwise_cons.1 hb).1 x h1)) (List.lt_irrefl _)
    subst hxy
    rw [asc_uniq (List.pairwise_cons.1 ha).2 (List.pairwise_cons.1 hb).2 ((List.perm_cons x).1 h)]
theorem ptsOf_perm {L L' : List Nd} (h : L.Perm L') : ptsOf L = ptsOf L' := srt_congr (h.flatMap_right _)
theorem erase_asc {N : List Nm} (h : Asc N) (k : Nat) : Asc (N.eraseIdx k) := List.Pairwise.sublist (List.eraseIdx_sublist N k) h
/-- The names without one. -/
theorem erase_names {L L' : List Nd} {x : Nm} {n : Nat} (hg : Good L) (hg' : Good L') (h : L.Perm ((x, n) :: L')) : (ascOf L).eraseIdx (pos (ascOf L) x) = ascOf L' := by
  have hx : x ∈ ascOf L := hg.mem.2 (List.mem_map.2 ⟨(x, n), h.symm.subset (List.mem_cons_self ..), rfl⟩)
  obtain ⟨hk, he⟩ := (pos_mem hg.asc).1 hx
  refine asc_uniq (erase_asc hg.asc _) hg'.asc ?_
  have h1 : ((ascOf L)[pos (ascOf L) x] :: (ascOf L).eraseIdx (pos (ascOf L) x)).Perm (ascOf L) := by
    have := List.perm_middle (a := (ascOf L)[pos (ascOf L) x]) (l₁ := (ascOf L).take (pos (ascOf L) x)) (l₂ := (ascOf L).drop (pos (ascOf L) x + 1))
    rw [List.getElem_cons_drop, List.take_append_drop] at this
    rw [List.eraseIdx_eq_take_drop_succ]
    exact this.symm
  rw [he] at h1
  have h2 : (ascOf L).Perm (x :: ascOf L') := (hg.perm.trans (h.map (·.1))).trans (List.Perm.cons x hg'.perm.symm)
  exact (List.perm_cons x).1 (h1.trans h2)
theorem offN_ptsOf {L : List Nd} (hg : Good L) (x : Nm) : offN x (ptsOf L) = ptsOf (L.filter fun y => decide (y.1 ≠ x)) := ptsOf_filter (fun y hy => (hg.wt y hy).1) x
def nmGuest : Nm := [103, 117, 101, 115, 116]
theorem mkL_guest {l : List (Nat × Nat)} : nmGuest ∉ (mkL l).map (·.1) := fun h => by
  obtain ⟨y, hy, e⟩ := List.mem_map.1 h
  obtain ⟨n, hn⟩ := mkL_nm hy
  rw [e] at hn
  have := (List.cons.inj hn).1
  exact absurd this (by decide)
/-- The other ring inside the loop: m nodes are to be added. -/
def gl (L : List Nd) (g m : Nat) : List Nd := (nmGuest, g) :: (L.drop m).reverse
theorem gl_step {L : List Nd} {g m : Nat} (h : m < L.length) : gl L g m = gl L g (m + 1) ++ [L[m]] := by
  unfold gl
  rw [List.drop_eq_getElem_cons h, List.reverse_cons, List.cons_append]
theorem gl_new {L : List Nd} (hg : Good L) (hn : nmGuest ∉ L.map (·.1)) {g m : Nat} (h : m < L.length) : L[m].1 ∉ (gl L g (m + 1)).map (·.1) := by
  intro hx
  unfold gl at hx
  rw [List.map_cons, List.map_reverse] at hx
  rcases List.mem_cons.1 hx with e | hx
  · exact hn (List.mem_map.2 ⟨L[m], List.getElem_mem h, e⟩)
  · rw [List.mem_reverse, List.map_drop] at hx
    have hnd := hg.nd
    have hl : m < (L.map (·.1)).length := by rw [List.length_map]; exact h
    rw [← List.take_append_drop m (L.map (·.1)), List.nodup_append, List.drop_eq_getElem_cons hl] at hnd
    exact (List.nodup_cons.1 hnd.2.1).1 (by rw [List.getElem_map]; exact hx)
theorem gl_all {L : List Nd} {g : Nat} : (gl L g 0).Perm ((nmGuest, g) :: L) := List.Perm.cons _ (List.reverse_perm L)
theorem gl_less {L : List Nd} {g : Nat} (hn : nmGuest ∉ L.map (·.1)) : ptsOf ((gl L g 0).filter fun y => decide (y.1 ≠ nmGuest)) = ptsOf L := by
  unfold gl
  rw [List.filter_cons_of_neg (by simp), List.drop_zero, List.filter_eq_self.2 (fun y hy => by
    simp only [decide_eq_true_eq]
    exact fun e => hn (List.mem_map.2 ⟨y, List.mem_reverse.1 hy, e⟩))]
  exact ptsOf_perm (List.reverse_perm L)
end Rg
end Go.Proofs.YtpfpjcfacbfjaaaGreatDoor
