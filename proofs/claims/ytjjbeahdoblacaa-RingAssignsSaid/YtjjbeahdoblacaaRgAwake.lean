/-
  Layer 31: the fixed fact of the laws.
-/
import Derived.Test.YtjjbeahdoblacaaRgMade
namespace Go.Proofs.Ytjjbeahdoblacaa
open Go.Shelf Go.RowKit Go.Lib Go.Sort Rg
namespace Rg
theorem single_own {x : Nm} {n : Nat} (hn : 1 ≤ n) (h : Int) : own (srt ([] ++ pts1 x n)) h = [x] :=
  own_single (fun p hp => pts1_mem (by simpa using (srt_perm _).subset hp)) (fun e => pts1_ne (x := x) hn (by
    have := srt_len ([] ++ pts1 x n)
    rw [e] at this
    simpa using List.eq_nil_of_length_eq_zero this.symm))
theorem single_owners {x : Nm} {n : Nat} (hn : 1 ≤ n) (h m : Int) (hm : 1 ≤ m) : owners (insAt (pos [] x) x []) (srt ([] ++ pts1 x n)) h m = [x] := by
  unfold owners
  rw [single_own hn]
  have : (insAt (pos [] x) x []).length = 1 := by rw [insAt_len]; rfl
  rw [this]
  exact List.take_of_length_le (by rw [List.length_singleton]; omega)
theorem single_sub {x : Nm} {n : Nat} : ∀ p ∈ srt ([] ++ pts1 x n), p.2 ∈ insAt (pos [] x) x [] := fun p hp => by
  have := pts1_mem (x := x) (n := n) (p := p) (by simpa using (srt_perm _).subset hp)
  rw [this]; exact (insAt_perm _ x []).symm.subset (by simp)
end Rg
set_option maxRecDepth 100000 in
set_option maxHeartbeats 8000000 in
theorem awake_any (w : World) : Calls Try.prog 10 #[] w fun e w' => e = .returned (.bool true) ∧ Below w.heap.size w w' := by
  have hnw := new_any w w.heap.size (Nat.le_refl _)
  go_enter Try.func10, Try.ntmps10
  go_wp2_with fail
  refine hnw.mono ?_
  rintro e w1 ⟨rfl, hr1, hb1⟩
  have had := add_yes w1 w.heap.size w.heap.size 1 (.slice none 0 0) (.slice none 0 0) [] [] [97] hr1 List.Pairwise.nil (by simp) (by simp) hb1.size (by simp) (by simp) (by omega) (by omega) (by simp)
  have hF := Lib.hid (fun w' => hr1.frame (w' := w') hb1.size)
  have hb1' := Lib.hid hb1
  clear hnw hb1 hr1
  generalize hloc : w.heap.size = loc at had ⊢
  have Hloc := Lib.hid hloc
  clear hloc
  have had' : Calls Try.prog 20 #[.pointer (some ⟨loc, 0, none⟩), .string (str [97]), .int .i64 1] w1 fun e w' => e = .returned .nilIface ∧ Kp (fun b => b = loc ∨ (Value.slice none 0 0).ownBlock = some b ∨ (Value.slice none 0 0).ownBlock = some b) w1 w' ∧ ∃ v1' v2', Ring2 w' loc loc v1' v2' (insAt (pos [] [97]) [97] []) (srt ([] ++ pts1 [97] 1)) := had
  clear had
  go_wp2_with fail
  refine had'.mono ?_
  rintro e w2 ⟨rfl, hk2, v1', v2', hr2⟩
  have hb2 : Hid (Below w.heap.size w w2) := by
    have := hF.out w2
    rw [Hloc.out] at this
    have h := hb1'.out
    rw [Hloc.out] at h ⊢
    exact h.trans (this hk2)
  have hon := owner_yes w2 loc loc v1' v2' _ _ [107] hr2 (srt_srt _) single_sub (by rw [insAt_len]; simp) (by rw [srt_len]; simp [pts1_len]) (by simp)
  rw [single_owners (by omega) _ _ (by omega)] at hon
  have hon' : Calls Try.prog 14 #[.pointer (some ⟨loc, 0, none⟩), .string (str [107])] w2 fun e w' => e = .returned (.tuple #[.string (str [97]), .nilIface]) ∧ Below w2.heap.size w2 w' := hon
  have hR2 := Lib.hid hr2
  clear hk2 hr2 hon had' hF
  go_wp2_with fail
  refine hon'.mono ?_
  rintro e w3 ⟨rfl, hb3⟩
  have hs97 : ((str [97]).toList == [97]) = true := by rw [str_toList]; rfl
  have hnd := nodes_yes w3 loc loc v1' v2' _ _ (hR2.out.below hb3) (by rw [insAt_len]; simp)
  rw [show (insAt (pos [] [97]) [97] []).length = 1 by rw [insAt_len]; rfl] at hnd
  have hB3 := Lib.hid (Below.next hb2.out hb2.out.size hb3)
  clear hb3 hon'
  go_wp2_with fail
  refine hnd.mono ?_
  rintro e w4 ⟨o, rfl, ho, hb4⟩
  obtain ⟨A, c, rfl, -, -, -⟩ := Rd.own ho
  have hB4 := Lib.hid (Below.next hB3.out hB3.out.size hb4)
  clear ho hb4 hnd
  go_wp2
  go_ret
  exact ⟨rfl, hB4.out⟩
end Go.Proofs.Ytjjbeahdoblacaa
