/-
  Layer 31: New, Owner, Nodes; the names of the nodes in the laws.
-/
import Derived.Test.YtpfpjcfacbfjaaaGreatDoorRgOwn
namespace Go.Proofs.YtpfpjcfacbfjaaaGreatDoor
open Go.Shelf Go.RowKit Go.Lib Go.Sort Rg

namespace Rg
/-- The name of one of 16 nodes. -/
def nmOf (n : Nat) : Nm := [110, 111, 100, 101, UInt8.ofNat (97 + n % 16)]
theorem nmOf_len (n : Nat) : (nmOf n).length = 5 := rfl
theorem own_mem {Q : List Pt} {h : Int} {x : Nm} : x ∈ own Q h ↔ ∃ p ∈ Q, p.2 = x := by
  rw [own_eq, ddp_mem, nms_mem]
theorem own_nodup (Q : List Pt) (h : Int) : (own Q h).Nodup := by rw [own_eq]; exact ddp_nodup _
/-- All points of one node. -/
theorem own_single {Q : List Pt} {h : Int} {x : Nm} (hq : ∀ p ∈ Q, p.2 = x) (hne : Q ≠ []) : own Q h = [x] := by
  have hn := own_nodup Q h
  have hm : ∀ y, y ∈ own Q h ↔ y = x := fun y => by
    rw [own_mem]
    constructor
    · rintro ⟨p, hp, rfl⟩; exact hq p hp
    · rintro rfl
      obtain ⟨p, hp⟩ := List.exists_mem_of_ne_nil Q hne
      exact ⟨p, hp, hq p hp⟩
  match hO : own Q h with
  | [] => have := (hm x).2 rfl; rw [hO] at this; cases this
  | [y] => have := (hm y).1 (by rw [hO]; simp); rw [this]
  | y :: z :: r =>
    rw [hO] at hn hm
    have e1 := (hm y).1 (by simp)
    have e2 := (hm z).1 (by simp)
    rw [List.nodup_cons] at hn
    exact absurd (by rw [e1, e2]; simp) hn.1
theorem pts1_mem {x : Nm} {n : Nat} {p : Pt} (h : p ∈ pts1 x n) : p.2 = x := by
  unfold pts1 at h; rw [List.mem_map] at h; obtain ⟨k, _, rfl⟩ := h; rfl
theorem pts1_ne {x : Nm} {n : Nat} (h : 1 ≤ n) : pts1 x n ≠ [] := fun e => by
  have := pts1_len x n; rw [e] at this; simp at this; omega
end Rg
theorem run_byteN (w : World) (c : UInt8) : (convert 23 9 (.slice (some ⟨w.heap.size, 0, none⟩) 1 1)).run Tryz.prog (w.alloc (.cells #[.int .u8 (c.toNat : Int)] 5)) = .ok (.string (str [c])) (w.alloc (.cells #[.int .u8 (c.toNat : Int)] 5)) :=
  run_convert_bytes_back _ 23 9 5 ⟨w.heap.size, 0, none⟩ 1 [c] Tryz.underlying23 Tryz.underlying5 Tryz.underlying9 (fun j hj => by
    have : j = 0 := by simp at hj; omega
    subst this
    exact (blk_new w _ _).cell 0)
theorem str_app (a b : List UInt8) : str a ++ str b = str (a ++ b) := by
  apply ByteArray.ext
  simp [str, ByteArray.data_append]
theorem new_any (w : World) (B : Nat) (hB : B ≤ w.heap.size) : Calls Tryz.prog 5 #[] w fun e w' => e = .returned (.pointer (some ⟨w.heap.size, 0, none⟩)) ∧ Ring2 w' B w.heap.size (.slice none 0 0) (.slice none 0 0) [] [] ∧ Below w.heap.size w w' := by
  go_enter Tryz.func5, Tryz.ntmps5
  go_wp2
  go_ret
  exact ⟨rfl, ⟨blk_new w _ _, hB, own_nil _ _ _ _, own_nil _ _ _ _⟩, (Below.refl _ _).alloc (Nat.le_refl _) _⟩
set_option maxHeartbeats 2000000 in
theorem nodes_yes (w : World) (B l : Nat) (v1 v2 : Value) (N : List Nm) (Q : List Pt) (hr : Ring2 w B l v1 v2 N Q) (hN : N.length ≤ 1000) :
    Calls Tryz.prog 31 #[.pointer (some ⟨l, 0, none⟩)] w fun e w' => ∃ o, e = .returned o ∧ Own w' w.heap.size 9 1 o N.length (strs N) ∧ Below w.heap.size w w' := by
  have c0 : w.cell? ⟨l, 0, none⟩ = some v1 := hr.blk.cell 0
  have hc := clone_nm w B v1 N (by omega) hr.nodes
  go_enter Tryz.func31, Tryz.ntmps31
  go_wp2_with fail
  refine hc.mono ?_
  rintro e w' ⟨o, rfl, ho, hb⟩
  replace ho := Lib.hid ho
  replace hb := Lib.hid hb
  go_wp2
  go_ret
  exact ⟨o, rfl, ho.out, hb.out⟩
theorem nodes_no (w : World) : Calls Tryz.prog 31 #[.pointer none] w fun e w' => e = .returned (.slice none 0 0) ∧ w' = w := by
  go_enter Tryz.func31, Tryz.ntmps31
  go_wp2
  go_ret
  exact ⟨rfl, rfl⟩
/-- Owner: the first of the owners, or the error. -/
def ownE (L : List Nm) : Int := if L = [] then 3 else 0
end Go.Proofs.YtpfpjcfacbfjaaaGreatDoor
