/-
  Layer 2: names and values of fields.
-/
import Derived.Test.YtemlnmelicnneaaDoorCRun
import Derived.Test.YtemlnmelicnneaaDoorFLow
import Derived.Test.YtemlnmelicnneaaDoorTrim
import Derived.Test.YtemlnmelicnneaaDoorParts
namespace Go.Proofs.YtemlnmelicnneaaDoor
open Go.RowKit Syn Ck

set_option maxHeartbeats 1000000 in
theorem fcontrol_any (s : ByteArray) (w : World) (hs : s.size ≤ maxLen) :
    Calls Tryd.prog 65 #[.string s] w fun e w' => e = .returned (.bool (!cln (bs s))) ∧ w' = w := by
  unfold maxLen at hs
  go_enter Tryd.func65, Tryd.ntmps65
  go_wp2
  go_loop [3, 6] (fun _ i => ∃ k : Nat, i = .int .i64 k ∧ k ≤ s.size ∧ Hid (((bs s).take k).all (fun c => !ctl c) = true)) (fun _ i => s.size - (intOf i).toNat)
  case atStart => exact ⟨0, rfl, by omega, rfl⟩
  case round =>
    obtain ⟨k, rfl, hk, ha⟩ := hrel
    by_cases hlt : k < s.size
    · have key : s[k].toNat < 32 ∧ s[k].toNat ≠ 9 ∨ s[k].toNat = 9 ∨ s[k].toNat = 127 ∨ (32 ≤ s[k].toNat ∧ s[k].toNat ≠ 127) := by omega
      have no : ctlN s[k].toNat = false → Hid (((bs s).take (k + 1)).all (fun c => !ctl c) = true) := fun ht => all_step (p := fun c => !ctl c) hlt ha.out (by show (!ctlN s[k].toNat) = true; rw [ht]; rfl)
      have yes : ctlN s[k].toNat = true → Hid ((!cln (bs s)) = true) := fun ht => by rw [cln_fail hlt ht]; rfl
      rcases key with h | h | h | h
      · have e := yes (by unfold ctlN; simp [h.1, h.2])
        have h0 := h.1
        have h1 := beq_cast_false h.2
        clear no yes
        go_wp2
        go_ret
        exact ⟨congrArg (fun b => Ending.returned (.bool b)) e.out.symm, rfl⟩
      · have e := no (by rw [h]; rfl)
        have h1 := beq_cast_true h
        have h2 := beq_cast_false (show s[k].toNat ≠ 127 by omega)
        clear no yes
        go_wp2
        go_round
        case rel => exact ⟨k + 1, by go_num, by omega, e⟩
        case measure => simp [intOf]; omega
      · have e := yes (by rw [h]; rfl)
        have h2 := beq_cast_true h
        clear no yes
        go_wp2
        go_ret
        exact ⟨congrArg (fun b => Ending.returned (.bool b)) e.out.symm, rfl⟩
      · have e := no (by unfold ctlN; simp; omega)
        have h0 := h.1
        have h2 := beq_cast_false h.2
        clear no yes
        go_wp2
        go_round
        case rel => exact ⟨k + 1, by go_num, by omega, e⟩
        case measure => simp [intOf]; omega
    · obtain rfl : k = s.size := by omega
      have hf := Lib.hid (all_done ha.out)
      go_wp2
      go_ret
      exact ⟨congrArg (fun b => Ending.returned (.bool b)) (show false = !cln (bs s) by rw [show cln (bs s) = true from hf.out]; rfl), rfl⟩

set_option maxHeartbeats 1000000 in
theorem fname_any (s : ByteArray) (w : World) (hs : s.size ≤ 1000000) :
    Calls Tryd.prog 48 #[.string s] w fun e w' => e = .returned (.tuple #[.string (str (nmV (bs s))), errV (nmE (bs s))]) ∧ Below w.heap.size w w' := by
  have hT := Lib.hid (fun w => token_any s w (by unfold maxLen; omega))
  have hL := Lib.hid (fun w => flower_any s w hs)
  have hn := bs_length s
  cases ht : isTok (bs s)
  · have e := Lib.hid (show nmE (bs s) = 8 by unfold nmE; rw [ht]; rfl)
    have e2 := Lib.hid (show nmV (bs s) = [] by unfold nmV; rw [e.out]; rfl)
    rw [ht] at hT
    rw [e.out, e2.out]
    clear hL ht
    go_enter Tryd.func48, Tryd.ntmps48
    go_wp2_with fail
    refine (hT.out _).mono ?_
    rintro e w' ⟨rfl, rfl⟩
    go_wp2
    go_ret2
    exact ⟨rfl, Below.refl _ _⟩
  · rw [ht] at hT
    by_cases h64 : 64 < s.size
    · have e := Lib.hid (show nmE (bs s) = 5 by unfold nmE; rw [ht, if_pos rfl, if_pos (by omega)])
      have e2 := Lib.hid (show nmV (bs s) = [] by unfold nmV; rw [e.out]; rfl)
      rw [e.out, e2.out]
      clear hL ht
      go_enter Tryd.func48, Tryd.ntmps48
      go_wp2_with fail
      refine (hT.out _).mono ?_
      rintro e w' ⟨rfl, rfl⟩
      go_wp2
      go_ret2
      exact ⟨rfl, Below.refl _ _⟩
    · have e := Lib.hid (show nmE (bs s) = 0 by unfold nmE; rw [ht, if_pos rfl, if_neg (by omega)])
      have e2 := Lib.hid (show nmV (bs s) = Syn.lower (bs s) by unfold nmV; rw [e.out]; rfl)
      rw [e.out, e2.out]
      clear ht
      go_enter Tryd.func48, Tryd.ntmps48
      go_wp2_with fail
      refine (hT.out _).mono ?_
      rintro e w' ⟨rfl, rfl⟩
      go_wp2_with fail
      refine (hL.out _).mono ?_
      rintro e w2 ⟨rfl, hb⟩
      replace hb := Lib.hid hb
      go_wp2
      go_ret2
      exact ⟨rfl, hb.out⟩

set_option maxHeartbeats 1000000 in
theorem fvalue_any (s : ByteArray) (w : World) (hs : s.size ≤ 1000000) :
    Calls Tryd.prog 49 #[.string s] w fun e w' => e = .returned (.tuple #[.string (str (vlV (bs s))), errV (vlE (bs s))]) ∧ Below w.heap.size w w' := by
  have hT := Lib.hid (fun w => fcontrol_any s w (by unfold maxLen; omega))
  have hL := Lib.hid (fun w => trim_any s w (by omega))
  cases ht : cln (bs s)
  · have e := Lib.hid (show vlE (bs s) = 2 by unfold vlE; rw [ht]; rfl)
    have e2 := Lib.hid (show vlV (bs s) = [] by unfold vlV; rw [e.out]; rfl)
    rw [ht] at hT
    rw [e.out, e2.out]
    clear hL ht
    go_enter Tryd.func49, Tryd.ntmps49
    go_wp2_with fail
    refine (hT.out _).mono ?_
    rintro e w' ⟨rfl, rfl⟩
    go_wp2
    go_ret2
    exact ⟨rfl, Below.refl _ _⟩
  · rw [ht] at hT
    have hz := str_size (trim (bs s))
    by_cases h64 : 2048 < (str (trim (bs s))).size
    · have e := Lib.hid (show vlE (bs s) = 5 by unfold vlE; rw [ht, if_pos rfl, if_pos (by omega)])
      have e2 := Lib.hid (show vlV (bs s) = [] by unfold vlV; rw [e.out]; rfl)
      rw [e.out, e2.out]
      clear ht hz
      generalize str (trim (bs s)) = tt at *
      go_enter Tryd.func49, Tryd.ntmps49
      go_wp2_with fail
      refine (hT.out _).mono ?_
      rintro e w' ⟨rfl, rfl⟩
      go_wp2_with fail
      refine (hL.out _).mono ?_
      rintro e w2 ⟨rfl, hb⟩
      replace hb := Lib.hid hb
      go_wp2
      go_ret2
      exact ⟨rfl, hb.out⟩
    · have e := Lib.hid (show vlE (bs s) = 0 by unfold vlE; rw [ht, if_pos rfl, if_neg (by omega)])
      have e2 := Lib.hid (show vlV (bs s) = trim (bs s) by unfold vlV; rw [e.out]; rfl)
      rw [e.out, e2.out]
      clear ht hz
      generalize str (trim (bs s)) = tt at *
      go_enter Tryd.func49, Tryd.ntmps49
      go_wp2_with fail
      refine (hT.out _).mono ?_
      rintro e w' ⟨rfl, rfl⟩
      go_wp2_with fail
      refine (hL.out _).mono ?_
      rintro e w2 ⟨rfl, hb⟩
      replace hb := Lib.hid hb
      go_wp2
      go_ret2
      exact ⟨rfl, hb.out⟩

set_option maxHeartbeats 1000000 in
theorem r2name_any (s : ByteArray) (w : World) (hs : s.size ≤ 1000000) :
    Calls Tryd.prog 51 #[.string s] w fun e w' => e = .returned (.tuple #[.string (str (nmV (bs s))), .int .i64 (nmE (bs s))]) ∧ Below w.heap.size w w' := by
  have hT := Lib.hid (fun w => rtoken_any s w (by unfold maxLen; omega))
  have hL := Lib.hid (fun w => rlower_any s w hs)
  have hn := bs_length s
  cases ht : isTok (bs s)
  · have e := Lib.hid (show nmE (bs s) = 8 by unfold nmE; rw [ht]; rfl)
    have e2 := Lib.hid (show nmV (bs s) = [] by unfold nmV; rw [e.out]; rfl)
    rw [ht] at hT
    rw [e.out, e2.out]
    clear hL ht
    go_enter Tryd.func51, Tryd.ntmps51
    go_wp2_with fail
    refine (hT.out _).mono ?_
    rintro e w' ⟨rfl, rfl⟩
    go_wp2
    go_ret2
    exact ⟨rfl, Below.refl _ _⟩
  · rw [ht] at hT
    by_cases h64 : 64 < s.size
    · have e := Lib.hid (show nmE (bs s) = 5 by unfold nmE; rw [ht, if_pos rfl, if_pos (by omega)])
      have e2 := Lib.hid (show nmV (bs s) = [] by unfold nmV; rw [e.out]; rfl)
      rw [e.out, e2.out]
      clear hL ht
      go_enter Tryd.func51, Tryd.ntmps51
      go_wp2_with fail
      refine (hT.out _).mono ?_
      rintro e w' ⟨rfl, rfl⟩
      go_wp2
      go_ret2
      exact ⟨rfl, Below.refl _ _⟩
    · have e := Lib.hid (show nmE (bs s) = 0 by unfold nmE; rw [ht, if_pos rfl, if_neg (by omega)])
      have e2 := Lib.hid (show nmV (bs s) = Syn.lower (bs s) by unfold nmV; rw [e.out]; rfl)
      rw [e.out, e2.out]
      clear ht
      go_enter Tryd.func51, Tryd.ntmps51
      go_wp2_with fail
      refine (hT.out _).mono ?_
      rintro e w' ⟨rfl, rfl⟩
      go_wp2_with fail
      refine (hL.out _).mono ?_
      rintro e w2 ⟨rfl, hb⟩
      replace hb := Lib.hid hb
      go_wp2
      go_ret2
      exact ⟨rfl, hb.out⟩

set_option maxHeartbeats 1000000 in
theorem r2value_any (s : ByteArray) (w : World) (hs : s.size ≤ 1000000) :
    Calls Tryd.prog 52 #[.string s] w fun e w' => e = .returned (.tuple #[.string (str (vlV (bs s))), .int .i64 (vlE (bs s))]) ∧ Below w.heap.size w w' := by
  have hT := Lib.hid (fun w => rcontrol_any s w (by unfold maxLen; omega))
  have hL := Lib.hid (fun w => rtrim_any s w (by unfold maxLen; omega))
  cases ht : cln (bs s)
  · have e := Lib.hid (show vlE (bs s) = 2 by unfold vlE; rw [ht]; rfl)
    have e2 := Lib.hid (show vlV (bs s) = [] by unfold vlV; rw [e.out]; rfl)
    rw [ht] at hT
    rw [e.out, e2.out]
    clear hL ht
    go_enter Tryd.func52, Tryd.ntmps52
    go_wp2_with fail
    refine (hT.out _).mono ?_
    rintro e w' ⟨rfl, rfl⟩
    go_wp2
    go_ret2
    exact ⟨rfl, Below.refl _ _⟩
  · rw [ht] at hT
    have hz := str_size (trim (bs s))
    by_cases h64 : 2048 < (str (trim (bs s))).size
    · have e := Lib.hid (show vlE (bs s) = 5 by unfold vlE; rw [ht, if_pos rfl, if_pos (by omega)])
      have e2 := Lib.hid (show vlV (bs s) = [] by unfold vlV; rw [e.out]; rfl)
      rw [e.out, e2.out]
      clear ht hz
      generalize str (trim (bs s)) = tt at *
      go_enter Tryd.func52, Tryd.ntmps52
      go_wp2_with fail
      refine (hT.out _).mono ?_
      rintro e w' ⟨rfl, rfl⟩
      go_wp2_with fail
      refine (hL.out _).mono ?_
      rintro e w2 ⟨rfl, rfl⟩
      go_wp2
      go_ret2
      exact ⟨rfl, Below.refl _ _⟩
    · have e := Lib.hid (show vlE (bs s) = 0 by unfold vlE; rw [ht, if_pos rfl, if_neg (by omega)])
      have e2 := Lib.hid (show vlV (bs s) = trim (bs s) by unfold vlV; rw [e.out]; rfl)
      rw [e.out, e2.out]
      clear ht hz
      generalize str (trim (bs s)) = tt at *
      go_enter Tryd.func52, Tryd.ntmps52
      go_wp2_with fail
      refine (hT.out _).mono ?_
      rintro e w' ⟨rfl, rfl⟩
      go_wp2_with fail
      refine (hL.out _).mono ?_
      rintro e w2 ⟨rfl, rfl⟩
      go_wp2
      go_ret2
      exact ⟨rfl, Below.refl _ _⟩
end Go.Proofs.YtemlnmelicnneaaDoor
