/-
  The walk of RingForms: a node that is taken.
-/
import Derived.Test.YtjjbeahdoblacaaRgFormsW
import Derived.Test.YtjjbeahdoblacaaRgAdd
namespace Go.Proofs.Ytjjbeahdoblacaa
open Go.Shelf Go.RowKit Go.Lib Go.Sort Rg
theorem rg_new (w : World) (t : TypeId) (xs : List Value) (n : Nat) (h : xs.length = n) : Rd (w.alloc (.cells xs.toArray t)) 1 (.slice (some ⟨w.heap.size, 0, none⟩) n n) n xs := by
  refine ⟨_, _, rfl, Nat.le_refl _, by omega, fun _ => ⟨_, _, rfl, by simp, fun j u hu => ?_⟩⟩
  rw [Nat.zero_add, (blk_new w t xs.toArray).cell j]
  simpa using hu
set_option maxRecDepth 100000 in
set_option maxHeartbeats 16000000 in
theorem forms_ok (w : World) (x key : Nm) (n : Nat) (s : Int) (hs1 : IntKind.i64.wrap (((str x).size : Int) + ((str key).size : Int)) = s) (hs2 : decide (1000 < s) = false) (hkm : key.length ≤ maxLen) (hx1 : 1 ≤ x.length) (hx2 : x.length ≤ 64) (hn1 : 1 ≤ n) (hn2 : n ≤ 16) :
    Calls Try.prog 9 #[.string (str x), .int .i64 (n : Int), .string (str key)] w fun e w' => e = .returned (.bool true) ∧ Below w.heap.size w w' := by
  have hsx : (str x).size = x.length := str_size x
  have hkz : (str key).size = key.length := str_size key
  have hAw := Lib.hid (fun w => awake_any w)
  have hd1 : decide (((str x).size : Int) < 1) = false := decide_eq_false (by omega)
  have hd2 : decide (64 < ((str x).size : Int)) = false := decide_eq_false (by omega)
  have hd3 : decide ((n : Int) < 1) = false := decide_eq_false (by omega)
  have hd4 : decide (16 < (n : Int)) = false := decide_eq_false (by omega)
  have hadd := Lib.hid (fun (w : World) (B l : Nat) (v1 v2 : Value) (hr : Ring2 w B l v1 v2 [] []) (hB : B ≤ w.heap.size) => add_yes w B l n v1 v2 [] [] x hr List.Pairwise.nil (by simp) (by simp) hB hx1 hx2 hn1 hn2 (by simp))
  have he4 : addE x 1 [x] = 4 := by unfold addE; rw [if_neg (by omega), if_neg (by omega), if_pos (by simp)]
  have hagain := Lib.hid (fun (w : World) (B l : Nat) (v1 v2 : Value) (Q : List Pt) (hr : Ring2 w B l v1 v2 [x] Q) => add_no w B l v1 v2 [x] Q x 1 hr (by simp [Asc]) (by simp) (by omega) (by rw [he4]; decide))
  have hQl' : (srt (pts1 x n)).length = 8 * n := by rw [srt_len, pts1_len]
  have hQm : ∀ p ∈ srt (pts1 x n), p.2 = x := fun p hp => pts1_mem ((srt_perm _).subset hp)
  have hQne : srt (pts1 x n) ≠ [] := fun e => by rw [e] at hQl'; simp at hQl'; omega
  have hos := Lib.hid (own_single (h := Sk.hash 255 key) hQm hQne)
  have hQx' : ∃ p ∈ srt (pts1 x n), p.2 = x := by
    obtain ⟨p, hp⟩ := List.exists_mem_of_ne_nil _ hQne
    exact ⟨p, hp, hQm p hp⟩
  have hsr := Lib.hid (srt_srt (pts1 x n))
  have hQN : ∀ p ∈ srt (pts1 x n), p.2 ∈ [x] := fun p hp => by rw [hQm p hp]; simp
  generalize hQ : srt (pts1 x n) = Q at *
  have HQ := Lib.hid hQ
  have hQl := hQl'
  have hQx := hQx'
  have HQN := Lib.hid hQN
  have hkey := Lib.hid hkm
  clear hkm
  clear hQ hQl' hQx' hQN hQm hQne hsx hkz
  have hnil : Hid (∀ w : World, Calls Try.prog 14 #[.pointer none, .string (str key)] w fun e w' => e = .returned (.tuple #[.string (str []), errV 3]) ∧ Below w.heap.size w w') := fun w => owner_no w (str key)
  have his : Hid (∀ w : World, Calls Try.prog 19 #[errV 3, .int .i64 3] w fun e w' => e = .returned (.bool true) ∧ w' = w) := fun w => by simpa using is_any 3 3 w
  have his4 : Hid (∀ w : World, Calls Try.prog 19 #[errV 4, .int .i64 4] w fun e w' => e = .returned (.bool true) ∧ w' = w) := fun w => by simpa using is_any 4 4 w
  have hnum : Hid (∀ w : World, Calls Try.prog 22 #[.nilIface] w fun e w' => e = .returned (.int .i64 0) ∧ w' = w) := fun w => num_any 0 w
  have hnw := fun w => new_any w w.heap.size (Nat.le_refl _)
  have Hnw := Lib.hid hnw
  clear hnw
  go_enter Try.func9, Try.ntmps9
  go_wp2_with fail
  refine (hAw.out _).mono ?_
  rintro e w1 ⟨rfl, hb1⟩
  have hB1 := Lib.hid hb1
  clear hb1
  go_wp2_with fail
  refine (Hnw.out _).mono ?_
  rintro e w2 ⟨rfl, hr2, hb2⟩
  have hB2 := Lib.hid (Below.next hB1.out hB1.out.size hb2)
  have Hr2 := Lib.hid hr2
  have Hloc := Lib.hid hB1.out.size
  have hlz := Lib.hid hb2.size
  clear hb2 hr2
  generalize w1.heap.size = loc at *
  go_wp2_with fail
  refine (hadd.out _ _ _ _ _ Hr2.out hlz.out).mono ?_
  rintro e w3 ⟨rfl, hk3, v1, v2, hr3⟩
  have hB3 := Lib.hid (hB2.out.trans ((Hr2.out.frame hlz.out hk3).mono Hloc.out))
  have Hr3 : Hid (Ring2 w3 loc loc v1 v2 [x] Q) := by rw [← HQ.out]; exact hr3
  clear hk3 hr3 HQ hadd
  go_wp2_with fail
  refine (hnum.out _).mono ?_
  rintro e w4 ⟨rfl, rfl⟩
  go_wp2_with fail
  refine (hagain.out _ _ _ _ _ _ Hr3.out).mono ?_
  rintro e w5 ⟨rfl, hb5⟩
  replace hB3 := Lib.hid (Below.next hB3.out hB3.out.size hb5)
  replace Hr3 := Lib.hid (Hr3.out.below hb5)
  clear hb5
  rw [he4]
  go_wp2_with fail
  refine (his4.out _).mono ?_
  rintro e w6 ⟨rfl, rfl⟩
  have hown := owners_long w6 loc loc v1 v2 [x] Q key 3 Hr3.out hsr.out HQN.out (by simp) (by rw [hQl]; omega) hkey.out (by omega) (by omega)
  rw [show owners [x] Q (Sk.hash 255 key) 3 = [x] from by unfold owners; rw [hos.out]; rfl] at hown
  simp only [List.length_cons, List.length_nil, Nat.zero_add] at hown
  go_wp2_with fail
  refine hown.mono ?_
  rintro e w7 ⟨o7, rfl, ho7, hb7⟩
  replace hB3 := Lib.hid (Below.next hB3.out hB3.out.size hb7)
  replace Hr3 := Lib.hid (Hr3.out.below hb7)
  have Ho7 := Lib.hid (Rd.own ho7)
  obtain ⟨A7, c7, rfl, hc7, -, -⟩ := Rd.own ho7
  have hT := texts_any (l1 := [x]) (l2 := [x]) (w7.alloc (.cells #[.string (str x)] 9)) (Ho7.out.below ((Below.refl _ _).alloc (Nat.le_refl _) _)) (rg_new w7 9 (strs [x]) 1 rfl) (by unfold maxLen; simp)
  simp only [decide_true] at hT
  clear ho7 hb7 hown hos hsr HQN hc7
  go_wp2_with fail
  refine hT.mono ?_
  rintro e w8 ⟨rfl, q8, hw8⟩
  have hb8 : Below w7.heap.size w7 w8 := by rw [hw8]; exact below_drewN ((Below.refl _ _).alloc (Nat.le_refl _) _) _
  replace hB3 := Lib.hid (Below.next hB3.out hB3.out.size hb8)
  replace Hr3 := Lib.hid (Hr3.out.below hb8)
  clear hw8 hb8 hT Ho7
  go_wp2_with fail
  refine (hnil.out _).mono ?_
  rintro e w5 ⟨rfl, hb5⟩
  replace hB3 := Lib.hid (Below.next hB3.out hB3.out.size hb5)
  replace Hr3 := Lib.hid (Hr3.out.below hb5)
  clear hb5
  go_wp2_with fail
  refine (assign_nil _ _ _ _).mono ?_
  rintro e w5 ⟨rfl, hb5⟩
  replace hB3 := Lib.hid (Below.next hB3.out hB3.out.size hb5)
  replace Hr3 := Lib.hid (Hr3.out.below hb5)
  clear hb5
  go_wp2_with fail
  refine (Hnw.out _).mono ?_
  rintro e w5 ⟨rfl, hr5, hb5⟩
  have Hr5 := Lib.hid hr5
  clear hr5
  replace hB3 := Lib.hid (Below.next hB3.out hB3.out.size hb5)
  replace Hr3 := Lib.hid (Hr3.out.below hb5)
  clear hb5
  go_wp2_with fail
  refine (assign_empty _ _ _ _ _ _ _ _ _ Hr5.out).mono ?_
  rintro e w5 ⟨rfl, hb5⟩
  replace hB3 := Lib.hid (Below.next hB3.out hB3.out.size hb5)
  replace Hr3 := Lib.hid (Hr3.out.below hb5)
  clear hb5
  clear Hr5
  go_wp2_with fail
  refine (add_nil _ _ _).mono ?_
  rintro e w5 ⟨rfl, hb5⟩
  replace hB3 := Lib.hid (Below.next hB3.out hB3.out.size hb5)
  replace Hr3 := Lib.hid (Hr3.out.below hb5)
  clear hb5
  go_wp2_with fail
  refine (his.out _).mono ?_
  rintro e w5 ⟨rfl, rfl⟩
  go_wp2_with fail
  refine (rem_nil _ _).mono ?_
  rintro e w5 ⟨rfl, hb5⟩
  replace hB3 := Lib.hid (Below.next hB3.out hB3.out.size hb5)
  replace Hr3 := Lib.hid (Hr3.out.below hb5)
  clear hb5
  go_wp2_with fail
  refine (nodes_no _).mono ?_
  rintro e w5 ⟨rfl, rfl⟩
  go_wp2_with fail
  refine (owners_no _ (.pointer none) _ 3 (Or.inl rfl)).mono ?_
  rintro e w5 ⟨rfl, hb5⟩
  replace hB3 := Lib.hid (Below.next hB3.out hB3.out.size hb5)
  replace Hr3 := Lib.hid (Hr3.out.below hb5)
  clear hb5
  go_wp2_with fail
  refine (his.out _).mono ?_
  rintro e w5 ⟨rfl, rfl⟩
  go_wp2_with fail
  refine (his.out _).mono ?_
  rintro e w5 ⟨rfl, rfl⟩
  go_wp2_with fail
  refine (his.out _).mono ?_
  rintro e w5 ⟨rfl, rfl⟩
  go_wp2_with fail
  have hrm := rem_yes _ loc loc _ _ _ _ x Hr3.out (by simp [Asc]) (by simp) (by rw [hQl]; omega) (by simp) hQx
  have hl3 := Hloc.out
  refine hrm.mono ?_
  rintro e w5 ⟨rfl, hk5, -⟩
  have hb5 := Lib.hid (hB3.out.trans ((Hr3.out.frame (by have := Hr3.out.blk.lt; omega) hk5).mono hl3))
  clear hk5 hrm
  go_wp2_with fail
  go_ret
  exact ⟨rfl, hb5.out⟩
end Go.Proofs.Ytjjbeahdoblacaa
