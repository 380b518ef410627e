/-
  Layer 33, plain: the ring of the shields; what Edge answers.
-/
import Derived.Test.YtpfpjcfacbfjaaaGreatDoorRgUse
import Derived.Test.YtpfpjcfacbfjaaaGreatDoorTShield
namespace Go.Proofs.YtpfpjcfacbfjaaaGreatDoor
open Go.RowKit Rg Syn Ti
namespace Ti
/-- The nodes of the ring of the shields. -/
noncomputable def stepS (L : List Nd) (s : Bytes) : List Nd := if s = org then L else if addE s 1 (ascOf L) = 0 then L ++ [(s, 1)] else L
noncomputable def mkS (l : List Bytes) : List Nd := l.foldl stepS []
/-- What holds of them. -/
structure GoodS (L : List Nd) : Prop where
  good : Rg.Good L
  nm : ∀ y ∈ L, 1 ≤ y.1.length ∧ y.1.length ≤ 64 ∧ y.1 ≠ org
  wt1 : ∀ y ∈ L, y.2 = 1
theorem allPts_one : ∀ {L : List Nd}, (∀ y ∈ L, y.2 = 1) → (allPts L).length = 8 * L.length
  | [], _ => rfl
  | x :: r, h => by
    have ih := allPts_one (L := r) (fun y hy => h y (List.mem_cons_of_mem _ hy))
    have e : allPts (x :: r) = pts1 x.1 x.2 ++ allPts r := rfl
    rw [e, List.length_append, pts1_len, ih, List.length_cons, h x (List.mem_cons_self ..)]; omega
theorem GoodS.plen {L : List Nd} (h : GoodS L) : (ptsOf L).length ≤ 8 * L.length := by
  unfold ptsOf; rw [srt_len, allPts_one h.wt1]; exact Nat.le_refl _
theorem addE_zero {x : Nm} {N : List Nm} (h : addE x 1 N = 0) : 1 ≤ x.length ∧ x.length ≤ 64 ∧ x ∉ N := by
  unfold addE at h
  split at h
  · cases h
  · next h1 =>
    split at h
    · next h2 => omega
    · split at h
      · cases h
      · next h3 => exact ⟨by omega, by omega, h3⟩
theorem stepS_good {L : List Nd} (h : GoodS L) (s : Bytes) : GoodS (stepS L s) := by
  unfold stepS
  split
  · exact h
  · next hs =>
    split
    · next he =>
      obtain ⟨h1, h2, h3⟩ := addE_zero he
      refine ⟨h.good.snoc (fun hx => h3 (h.good.mem.2 hx)) (by omega) (by omega), fun y hy => ?_, fun y hy => ?_⟩
      · rcases List.mem_append.1 hy with hy | hy
        · exact h.nm y hy
        · rw [List.mem_singleton] at hy; subst hy; exact ⟨h1, h2, hs⟩
      · rcases List.mem_append.1 hy with hy | hy
        · exact h.wt1 y hy
        · rw [List.mem_singleton] at hy; subst hy; rfl
    · exact h
/-- The names' sum, without wrap. -/
def sumB (l : List Bytes) : Nat := (l.map fun s => 1 + s.length).sum
theorem sumB_cons (s : Bytes) (l : List Bytes) : sumB (s :: l) = 1 + s.length + sumB l := by simp [sumB]
theorem sumB_snoc (l : List Bytes) (s : Bytes) : sumB (l ++ [s]) = sumB l + (1 + s.length) := by simp [sumB]
theorem sumB_len (l : List Bytes) : l.length ≤ sumB l := by
  induction l with
  | nil => exact Nat.zero_le _
  | cons s l ih => rw [sumB_cons, List.length_cons]; omega
theorem sumB_take {l : List Bytes} {k : Nat} (h : k < l.length) : sumB (l.take (k + 1)) = sumB (l.take k) + (1 + l[k].length) := by
  rw [List.take_succ_eq_append_getElem h, sumB_snoc]
theorem sumB_take_le (l : List Bytes) (k : Nat) : sumB (l.take k) ≤ sumB l := by
  have : sumB l = sumB (l.take k) + sumB (l.drop k) := by
    conv => lhs; rw [← List.take_append_drop k l]
    unfold sumB
    rw [List.map_append, List.sum_append]
  omega
theorem stepS_len {L : List Nd} (s : Bytes) : 2 * (stepS L s).length ≤ 2 * L.length + (1 + s.length) := by
  unfold stepS
  split
  · omega
  · split
    · next he =>
      obtain ⟨h1, -, -⟩ := addE_zero he
      rw [List.length_append, List.length_singleton]; omega
    · omega
theorem fold_goodS : ∀ (l : List Bytes) (L : List Nd), GoodS L → GoodS (l.foldl stepS L) ∧ 2 * (l.foldl stepS L).length ≤ 2 * L.length + sumB l
  | [], L, h => ⟨h, by simp [sumB]⟩
  | s :: r, L, h => by
    obtain ⟨h1, h2⟩ := fold_goodS r (stepS L s) (stepS_good h s)
    refine ⟨h1, Nat.le_trans h2 ?_⟩
    have := stepS_len (L := L) s
    rw [sumB_cons]; omega
theorem mkS_good (l : List Bytes) : GoodS (mkS l) := (fold_goodS l [] ⟨⟨by simp, by simp⟩, by simp, by simp⟩).1
theorem mkS_len (l : List Bytes) : 2 * (mkS l).length ≤ sumB l := by
  have := (fold_goodS l [] ⟨⟨by simp, by simp⟩, by simp, by simp⟩).2
  rw [List.length_nil, Nat.mul_zero, Nat.zero_add] at this
  exact this
theorem mkS_take {l : List Bytes} {k : Nat} (h : k < l.length) : mkS (l.take (k + 1)) = stepS (mkS (l.take k)) l[k] := by
  unfold mkS; rw [List.take_succ_eq_append_getElem h, List.foldl_append]; rfl
/-- The candidates of an edge. -/
def cands (O up path : List Bytes) (self : Bytes) : List Bytes := O.filter fun n => decide (n ∈ up) && (decide (n ∉ path) && decide (n ≠ self))
theorem cands_take {O up path : List Bytes} {self : Bytes} {k : Nat} (h : k < O.length) : cands (O.take (k + 1)) up path self = cands (O.take k) up path self ++ if (decide (O[k] ∈ up) && (decide (O[k] ∉ path) && decide (O[k] ≠ self))) = true then [O[k]] else [] := by
  unfold cands
  rw [← List.take_append_getElem h, List.filter_append]
  congr 1
  split
  · next e => exact (List.filter_cons_of_pos (p := fun n => decide (n ∈ up) && (decide (n ∉ path) && decide (n ≠ self))) e).trans rfl
  · next e => exact (List.filter_cons_of_neg (p := fun n => decide (n ∈ up) && (decide (n ∉ path) && decide (n ≠ self))) e).trans rfl
theorem cands_len (O up path : List Bytes) (self : Bytes) : (cands O up path self).length ≤ O.length := List.length_filter_le _ _
/-- What Edge answers, given the candidates. -/
def edE (bad : Int) (c : List Bytes) (tries : Int) : Int := if bad ≠ 0 then bad else if tries < 0 ∨ (c.length : Int) < tries then 3 else 0
def edS (bad : Int) (c : List Bytes) (tries : Int) : Bytes := if bad ≠ 0 then [] else if tries < 0 ∨ (c.length : Int) < tries then [] else (c ++ [org]).getD tries.toNat []
end Ti
end Go.Proofs.YtpfpjcfacbfjaaaGreatDoor
