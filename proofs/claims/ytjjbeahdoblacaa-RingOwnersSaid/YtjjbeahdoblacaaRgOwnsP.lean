/-
  Layer 31, plain: the laws' names in order; quaysidebase.Clip.
-/
import Derived.Test.YtjjbeahdoblacaaRgRefO
import Derived.Test.YtjjbeahdoblacaaRgOrdP
import Derived.Test.YtjjbeahdoblacaaBasic
namespace Go.Proofs.Ytjjbeahdoblacaa
open Go.Shelf Go.RowKit Go.Lib Go.Sort Rg
namespace Rg
set_option maxRecDepth 100000 in
theorem nmOf_lt' : ∀ i : Fin 16, ∀ t : Fin 16, t < i → nmOf t < nmOf i := by decide
theorem nmOf_lt {t i : Nat} (h : t < i) (hi : i < 16) : nmOf t < nmOf i := nmOf_lt' ⟨i, hi⟩ ⟨t, by omega⟩ h
theorem nmOf_mod (n : Nat) : nmOf n = nmOf (n % 16) := by unfold nmOf; rw [Nat.mod_mod]
def nmF (N : List Nm) (i : Nat) : List Nm := (List.range i).flatMap fun t => N.filter fun y => decide (y = nmOf t)
theorem nmF_zero (N : List Nm) : nmF N 0 = [] := rfl
theorem nmF_succ (N : List Nm) (i : Nat) : nmF N (i + 1) = nmF N i ++ N.filter fun y => decide (y = nmOf i) := by
  unfold nmF; rw [List.range_succ, List.flatMap_append]; simp
theorem nmF_mem {N : List Nm} {i : Nat} {x : Nm} : x ∈ nmF N i ↔ ∃ t, t < i ∧ x ∈ N ∧ x = nmOf t := by
  unfold nmF
  rw [List.mem_flatMap]
  constructor
  · rintro ⟨t, ht, hx⟩
    rw [List.mem_filter] at hx
    exact ⟨t, List.mem_range.1 ht, hx.1, by simpa using hx.2⟩
  · rintro ⟨t, ht, hx, e⟩
    exact ⟨t, List.mem_range.2 ht, List.mem_filter.2 ⟨hx, by simpa using e⟩⟩
theorem nmF_asc {N : List Nm} (hn : N.Nodup) : ∀ {i : Nat}, i ≤ 16 → Asc (nmF N i)
  | 0, _ => List.Pairwise.nil
  | i + 1, h => by
    rw [nmF_succ]
    unfold Asc
    rw [List.pairwise_append]
    refine ⟨nmF_asc hn (by omega), ?_, fun a ha b hb => ?_⟩
    · refine List.Pairwise.imp_of_mem (fun {a b} ha hb hne => ?_) (List.Pairwise.filter _ hn)
      have h1 := (List.mem_filter.1 ha).2
      have h2 := (List.mem_filter.1 hb).2
      simp only [decide_eq_true_eq] at h1 h2
      exact absurd (h1.trans h2.symm) hne
    · obtain ⟨t, ht, -, rfl⟩ := nmF_mem.1 ha
      have h2 := (List.mem_filter.1 hb).2
      simp only [decide_eq_true_eq] at h2
      rw [h2]
      exact nmOf_lt ht (by omega)
theorem asc_nodup {N : List Nm} (h : Asc N) : N.Nodup := List.Pairwise.imp (fun {a b} hab e => by subst e; exact List.lt_irrefl _ hab) h
theorem nmF_all {L : List Nd} (hg : Good L) (hm : ∀ x ∈ L, ∃ n, x.1 = nmOf n) : nmF (L.map (·.1)) 16 = ascOf L := by
  have h1 := nmF_asc hg.nd (i := 16) (Nat.le_refl _)
  refine asc_uniq h1 hg.asc ?_
  refine (perm_of (asc_nodup h1) hg.nd fun x => ?_).trans hg.perm.symm
  rw [nmF_mem]
  constructor
  · rintro ⟨t, _, hx, _⟩; exact hx
  · intro hx
    obtain ⟨y, hy, rfl⟩ := List.mem_map.1 hx
    obtain ⟨n, hn⟩ := hm y hy
    exact ⟨n % 16, Nat.mod_lt _ (by decide), hx, hn.trans (nmOf_mod n)⟩
theorem take_filter_is {N : List Nm} {x : Nm} {k : Nat} (h : k < N.length) : (N.take (k + 1)).filter (fun y => decide (y = x)) = (N.take k).filter (fun y => decide (y = x)) ++ if N[k] = x then [N[k]] else [] := by
  rw [← List.take_append_getElem h, List.filter_append]
  congr 1
  split
  · rename_i e; rw [List.filter_cons_of_pos (by simpa using e), List.filter_nil]
  · rename_i e; rw [List.filter_cons_of_neg (by simpa using e), List.filter_nil]
end Rg
theorem clip_any (w : World) (n : Int) (m : Nat) :
    Calls Try.prog 16 #[.int .i64 n, .int .i64 0, .int .i64 (m : Int)] w fun e w' => e = .returned (.int .i64 ((min n.toNat m : Nat) : Int)) ∧ w' = w := by
  have e1 : max (0 : Int) (min n (m : Int)) = ((min n.toNat m : Nat) : Int) := by omega
  go_enter Try.func16, Try.ntmps16
  go_wp2_with fail
  go_ret
  exact ⟨rfl, rfl⟩
end Go.Proofs.Ytjjbeahdoblacaa
