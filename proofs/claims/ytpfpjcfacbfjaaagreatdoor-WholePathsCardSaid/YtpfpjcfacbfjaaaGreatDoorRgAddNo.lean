/-
  Layer 31: Add that is refused.
-/
import Derived.Test.YtpfpjcfacbfjaaaGreatDoorRgRing
namespace Go.Proofs.YtpfpjcfacbfjaaaGreatDoor
open Go.Shelf Go.RowKit Go.Lib Go.Sort Rg
set_option maxRecDepth 100000 in
set_option maxHeartbeats 4000000 in
theorem add_nil (w : World) (x : ByteArray) (n : Int) :
    Calls Tryz.prog 8 #[.pointer none, .string x, .int .i64 n] w fun e w' => e = .returned (errV 3) ∧ Below w.heap.size w w' := by
  go_enter Tryz.func8, Tryz.ntmps8
  go_wp2
  go_ret
  exact ⟨rfl, (Below.refl _ _).alloc (Nat.le_refl _) _⟩
set_option maxRecDepth 100000 in
set_option maxHeartbeats 4000000 in
theorem add_ref (w : World) (B l : Nat) (v1 v2 : Value) (N : List Nm) (Q : List Pt) (x : Nm) (n : Int) (hr : Ring2 w B l v1 v2 N Q) (hA : Asc N) (hN : N.length ≤ 1000) (h : addE x n N ≠ 0) :
    Calls Tryz.prog 8 #[.pointer (some ⟨l, 0, none⟩), .string (str x), .int .i64 n] w fun e w' => e = .returned (errV (addE x n N)) ∧ Below w.heap.size w w' := by
  have hsx : (str x).size = x.length := str_size x
  by_cases h1 : x.length < 1 ∨ 64 < x.length
  · have he : addE x n N = 8 := if_pos h1
    rw [he]
    clear he h hr hA
    rcases h1 with h1 | h1
    · have z1 : ((str x).size : Int) < 1 := by omega
      have z2 : decide (((str x).size : Int) < 1) = true := decide_eq_true z1
      go_enter Tryz.func8, Tryz.ntmps8
      go_wp2
      go_ret
      exact ⟨rfl, (Below.refl _ _).alloc (Nat.le_refl _) _⟩
    · have z1 : 64 < ((str x).size : Int) := by omega
      have z3 : ¬ ((str x).size : Int) < 1 := by omega
      have z2 : decide (((str x).size : Int) < 1) = false := decide_eq_false z3
      have z4 : decide (64 < ((str x).size : Int)) = true := decide_eq_true z1
      go_enter Tryz.func8, Tryz.ntmps8
      go_wp2
      go_ret
      exact ⟨rfl, (Below.refl _ _).alloc (Nat.le_refl _) _⟩
  · have s1 : 1 ≤ (str x).size := by omega
    have s2 : (str x).size ≤ 64 := by omega
    have s3 : decide (((str x).size : Int) < 1) = false := decide_eq_false (by omega)
    have s4 : decide (64 < ((str x).size : Int)) = false := decide_eq_false (by omega)
    by_cases h2 : n < 1 ∨ 16 < n
    · have he : addE x n N = 1 := by unfold addE; rw [if_neg h1, if_pos h2]
      rw [he]
      clear he h hr hA
      rcases h2 with h2 | h2
      · have z2 : decide (n < 1) = true := decide_eq_true h2
        go_enter Tryz.func8, Tryz.ntmps8
        go_wp2
        go_ret
        exact ⟨rfl, (Below.refl _ _).alloc (Nat.le_refl _) _⟩
      · have z3 : ¬ n < 1 := by omega
        have z2 : decide (n < 1) = false := decide_eq_false z3
        have z4 : decide (16 < n) = true := decide_eq_true h2
        go_enter Tryz.func8, Tryz.ntmps8
        go_wp2
        go_ret
        exact ⟨rfl, (Below.refl _ _).alloc (Nat.le_refl _) _⟩
    · have s5 : decide (n < 1) = false := decide_eq_false (by omega)
      have s6 : decide (16 < n) = false := decide_eq_false (by omega)
      have hm : x ∈ N := by
        rcases Classical.em (x ∈ N) with hm | hm
        · exact hm
        · exact absurd (show addE x n N = 0 by unfold addE; rw [if_neg h1, if_neg h2, if_neg hm]) h
      have he : addE x n N = 4 := by unfold addE; rw [if_neg h1, if_neg h2, if_pos hm]
      rw [he]
      have c1 : w.cell? ⟨l, 0, none⟩ = some v1 := hr.blk.cell 0
      have hlt := hr.blk.lt
      have hbs := bsearch_any (w.alloc (.cells #[.pointer (some ⟨l, 0, none⟩)] 25)) v1 N x hA (by omega) (Rd.own (hr.nodes.alloc _))
      rw [decide_eq_true hm] at hbs
      have Hsx := Lib.hid hsx
      have H2 := Lib.hid h2
      have z1 : 1 ≤ n := by omega
      have z2 : n ≤ 16 := by omega
      clear hsx he h hm h1 h2
      go_enter Tryz.func8, Tryz.ntmps8
      go_wp2_with fail
      refine hbs.mono ?_
      rintro e w1 ⟨rfl, q, rfl⟩
      go_wp2
      go_ret
      exact ⟨rfl, below_drewN ((Below.refl _ _).alloc (Nat.le_refl _) _) q⟩
theorem add_no (w : World) (B l : Nat) (v1 v2 : Value) (N : List Nm) (Q : List Pt) (x : Nm) (n : Int) (hr : Ring2 w B l v1 v2 N Q) (hA : Asc N) (hN : N.length ≤ 1000) (_ : x.length ≤ 1000000) (h : addE x n N ≠ 0) :
    Calls Tryz.prog 8 #[.pointer (some ⟨l, 0, none⟩), .string (str x), .int .i64 n] w fun e w' => e = .returned (errV (addE x n N)) ∧ Below w.heap.size w w' :=
  add_ref w B l v1 v2 N Q x n hr hA hN h
end Go.Proofs.YtpfpjcfacbfjaaaGreatDoor
