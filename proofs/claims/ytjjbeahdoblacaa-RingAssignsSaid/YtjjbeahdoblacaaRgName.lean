/-
  Layer 31: New, Owner, Nodes; the names of the nodes in the laws.
-/
import Derived.Test.YtjjbeahdoblacaaRgOwn
namespace Go.Proofs.Ytjjbeahdoblacaa
open Go.Shelf Go.RowKit Go.Lib Go.Sort Rg

namespace Rg
/-- The name of one of 16 nodes. -/
def nmOf (n : Nat) : Nm := [110, 111, 100, 101, UInt8.ofNat (97 + n % 16)]
theorem nmOf_len (n : Nat) : (nmOf n).length = 5 := rfl
theorem own_mem {Q : List Pt} {h : Int} {x : Nm} : x ∈ own Q h ↔ ∃ p ∈ Q, p.2 = x := by
  rw [own_eq, ddp_mem, nms_mem]
theorem own_nodup (Q : List Pt) (h : Int) : (own Q h).Nodup := by rw [own_eq]; exact ddp_nodup _
/-- All points of one node. -/
theorem own_single {Q : List Pt} {h : Int} {x : Nm} (hq : ∀ p ∈ Q, p.2 = x) (hne : Q ≠ []) : own Q h = [x] := by
  have hn := own_nodup Q h
  have hm : ∀ y, y ∈ own Q h ↔ y = x := fun y => by
    rw [own_mem]
    constructor
    · rintro ⟨p, hp, rfl⟩; exact hq p hp
    · rintro rfl
      obtain ⟨p, hp⟩ := List.exists_mem_of_ne_nil Q hne
      exact ⟨p, hp, hq p hp⟩
  match hO : own Q h with
  | [] => have := (hm x).2 rfl; rw [hO] at this; cases this
  | [y] => have := (hm y).1 (by rw [hO]; simp); rw [this]
  | y :: z :: r =>
    rw [hO] at hn hm
    have e1 := (hm y).1 (by simp)
    have e2 := (hm z).1 (by simp)
    rw [List.nodup_cons] at hn
    exact absurd (by rw [e1, e2]; simp) hn.1
theorem pts1_mem {x : Nm} {n : Nat} {p : Pt} (h : p ∈ pts1 x n) : p.2 = x := by
  unfold pts1 at h; rw [List.mem_map] at h; obtain ⟨k, _, rfl⟩ := h; rfl
theorem pts1_ne {x : Nm} {n : Nat} (h : 1 ≤ n) : pts1 x n ≠ [] := fun e => by
  have := pts1_len x n; rw [e] at this; simp at this; omega
end Rg
theorem run_byte (w : World) (c : UInt8) : (convert 48 9 (.slice (some ⟨w.heap.size, 0, none⟩) 1 1)).run Try.prog (w.alloc (.cells #[.int .u8 (c.toNat : Int)] 5)) = .ok (.string (str [c])) (w.alloc (.cells #[.int .u8 (c.toNat : Int)] 5)) :=
  run_convert_bytes_back _ 48 9 5 ⟨w.heap.size, 0, none⟩ 1 [c] Try.underlying48 Try.underlying5 Try.underlying9 (fun j hj => by
    have : j = 0 := by simp at hj; omega
    subst this
    exact (blk_new w _ _).cell 0)
theorem str_app (a b : List UInt8) : str a ++ str b = str (a ++ b) := by
  apply ByteArray.ext
  simp [str, ByteArray.data_append]
set_option maxHeartbeats 2000000 in
theorem name_any (n : Nat) (hn : n < 256) (w : World) : Calls Try.prog 17 #[.int .u8 (n : Int)] w fun e w' => e = .returned (.string (str (nmOf n))) ∧ Below w.heap.size w w' := by
  have hr := run_byte w (UInt8.ofNat (97 + n % 16))
  have e1 : ((UInt8.ofNat (97 + n % 16)).toNat : Int) = 97 + (n : Int) % 16 := by rw [UInt8.toNat_ofNat_of_lt' (by show 97 + n % 16 < 256; omega)]; omega
  rw [e1] at hr
  have e2 : Hid (str (nmOf n) = str [110, 111, 100, 101] ++ str [UInt8.ofNat (97 + n % 16)]) := by show _ = _; rw [str_app]; rfl
  obtain ⟨S, hS⟩ : ∃ S, str [UInt8.ofNat (97 + n % 16)] = S := ⟨_, rfl⟩
  have hsz : S.size = 1 := by rw [← hS]; rfl
  rw [hS] at hr e2
  replace hS := Lib.hid hS
  have hszl : ¬ 9223372036854775807 < 4 + S.size := by omega
  have HZ := Lib.hid hsz
  clear hsz e1
  go_enter Try.func17, Try.ntmps17
  go_wp2
  go_ret
  exact ⟨by rw [e2.out]; rfl, (Below.refl _ _).alloc (Nat.le_refl _) _⟩
theorem new_any (w : World) (B : Nat) (hB : B ≤ w.heap.size) : Calls Try.prog 24 #[] w fun e w' => e = .returned (.pointer (some ⟨w.heap.size, 0, none⟩)) ∧ Ring2 w' B w.heap.size (.slice none 0 0) (.slice none 0 0) [] [] ∧ Below w.heap.size w w' := by
  go_enter Try.func24, Try.ntmps24
  go_wp2
  go_ret
  exact ⟨rfl, ⟨blk_new w _ _, hB, own_nil _ _ _ _, own_nil _ _ _ _⟩, (Below.refl _ _).alloc (Nat.le_refl _) _⟩
set_option maxHeartbeats 2000000 in
theorem nodes_yes (w : World) (B l : Nat) (v1 v2 : Value) (N : List Nm) (Q : List Pt) (hr : Ring2 w B l v1 v2 N Q) (hN : N.length ≤ 1000) :
    Calls Try.prog 18 #[.pointer (some ⟨l, 0, none⟩)] w fun e w' => ∃ o, e = .returned o ∧ Own w' w.heap.size 9 1 o N.length (strs N) ∧ Below w.heap.size w w' := by
  have c0 : w.cell? ⟨l, 0, none⟩ = some v1 := hr.blk.cell 0
  have hc := clone_nm w B v1 N (by omega) hr.nodes
  go_enter Try.func18, Try.ntmps18
  go_wp2_with fail
  refine hc.mono ?_
  rintro e w' ⟨o, rfl, ho, hb⟩
  replace ho := Lib.hid ho
  replace hb := Lib.hid hb
  go_wp2
  go_ret
  exact ⟨o, rfl, ho.out, hb.out⟩
theorem nodes_no (w : World) : Calls Try.prog 18 #[.pointer none] w fun e w' => e = .returned (.slice none 0 0) ∧ w' = w := by
  go_enter Try.func18, Try.ntmps18
  go_wp2
  go_ret
  exact ⟨rfl, rfl⟩
/-- Owner: the first of the owners, or the error. -/
def ownE (L : List Nm) : Int := if L = [] then 3 else 0
set_option maxHeartbeats 4000000 in
theorem owner_yes (w : World) (B l : Nat) (v1 v2 : Value) (N : List Nm) (Q : List Pt) (key : Nm) (hr : Ring2 w B l v1 v2 N Q) (hs : Srt Q) (hQN : ∀ p ∈ Q, p.2 ∈ N) (hN : N.length ≤ 1000) (hQ : Q.length ≤ 1000000) (hkey : key.length ≤ 1000000) :
    Calls Try.prog 14 #[.pointer (some ⟨l, 0, none⟩), .string (str key)] w fun e w' => e = .returned (.tuple #[.string (str ((owners N Q (Sk.hash 255 key) 1).headD [])), errV (ownE (owners N Q (Sk.hash 255 key) 1))]) ∧ Below w.heap.size w w' := by
  have ho := owners_yes w B l v1 v2 N Q key 1 hr hs hQN hN hQ hkey (by omega) (by omega)
  generalize owners N Q (Sk.hash 255 key) 1 = L at *
  cases L with
  | nil =>
    go_enter Try.func14, Try.ntmps14
    go_wp2_with fail
    refine ho.mono ?_
    rintro e w' ⟨o, rfl, hO, hb⟩
    obtain ⟨A, c, rfl, -, -, -⟩ := Rd.own hO
    replace hb := Lib.hid hb
    clear hO
    go_wp2
    go_ret2
    exact ⟨rfl, hb.out⟩
  | cons x r =>
    go_enter Try.func14, Try.ntmps14
    go_wp2_with fail
    refine ho.mono ?_
    rintro e w' ⟨o, rfl, hO, hb⟩
    obtain ⟨g, c, rfl⟩ := own_some hO (by simp)
    have c0 : w'.cell? ⟨g, 0, none⟩ = some (.string (str x)) := own_at hO (j := 0) rfl
    obtain ⟨m, hm⟩ : ∃ m, m = (x :: r).length := ⟨_, rfl⟩
    rw [← hm]
    have hm1 : 1 ≤ m := by rw [hm]; simp
    replace hb := Lib.hid hb
    replace hm := Lib.hid hm
    clear hO
    go_wp2
    go_ret2
    exact ⟨rfl, hb.out⟩
theorem owner_no (w : World) (key : ByteArray) : Calls Try.prog 14 #[.pointer none, .string key] w fun e w' => e = .returned (.tuple #[.string (str []), errV 3]) ∧ Below w.heap.size w w' := by
  have ho := owners_no w (.pointer none) key 1 (Or.inl rfl)
  go_enter Try.func14, Try.ntmps14
  go_wp2_with fail
  refine ho.mono ?_
  rintro e w' ⟨rfl, hb⟩
  replace hb := Lib.hid hb
  go_wp2
  go_ret2
  exact ⟨rfl, hb.out⟩
end Go.Proofs.Ytjjbeahdoblacaa
