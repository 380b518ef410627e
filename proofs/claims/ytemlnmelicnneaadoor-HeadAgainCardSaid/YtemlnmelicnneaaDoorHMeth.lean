/-
  Layer 5: methods and targets.
-/
import Derived.Test.YtemlnmelicnneaaDoorGWr
namespace Go.Proofs.YtemlnmelicnneaaDoor
open Go.RowKit Syn Hd Ck

namespace Hd
def upc (c : UInt8) : Bool := decide (65 ≤ c.toNat) && decide (c.toNat ≤ 90)
def vis (c : UInt8) : Bool := decide (33 ≤ c.toNat) && decide (c.toNat ≤ 126)
def optB : List UInt8 := [79, 80, 84, 73, 79, 78, 83]
/-- A method. -/
def mthB (l : List UInt8) : Bool := l.all upc && (decide (1 ≤ l.length) && decide (l.length ≤ 16))
def starB (m l : List UInt8) : Bool := decide (l = [42]) && decide (m = optB)
/-- A target for a method. -/
def tgtB (m l : List UInt8) : Bool := l.all vis && (decide (1 ≤ l.length) && decide (l.length ≤ 2048)) && (l.head?.any (fun c => decide (c.toNat = 47)) || starB m l)
theorem mthB_fail {l : List UInt8} (h : l.all upc = false) : mthB l = false := by unfold mthB; rw [h]; rfl
theorem mthB_done {l : List UInt8} {n : Nat} (h : l.all upc = true) (hn : l.length = n) : mthB l = (decide (1 ≤ n) && decide (n ≤ 16)) := by unfold mthB; rw [h, hn]; rfl
theorem tgtB_fail {m l : List UInt8} (h : l.all vis = false) : tgtB m l = false := by unfold tgtB; rw [h]; rfl
theorem tgtB_done {m l : List UInt8} {n : Nat} (h : l.all vis = true) (hn : l.length = n) : tgtB m l = ((decide (1 ≤ n) && decide (n ≤ 2048)) && (l.head?.any (fun c => decide (c.toNat = 47)) || starB m l)) := by unfold tgtB; rw [h, hn]; rfl
theorem head_at (s : ByteArray) (h : 1 ≤ s.size) : (bs s).head? = some s[0] := by
  have := byte_at s 0 h
  rw [← this]; cases bs s <;> rfl
theorem slash_yes {c : UInt8} (h : c.toNat = 47) : decide (c.toNat = 47) = true := decide_eq_true h
theorem slash_no {c : UInt8} (h : ¬ c.toNat = 47) : decide (c.toNat = 47) = false := decide_eq_false h
theorem toList_bs (s : ByteArray) : s.toList = bs s := by
  have := str_toList (bs s)
  rw [str_bs] at this; exact this
theorem lit_beq (s : ByteArray) (l : List UInt8) : (s.toList == l) = decide (bs s = l) := by
  rw [toList_bs]
  by_cases h : bs s = l
  · rw [decide_eq_true h, h]; exact beq_self_eq_true _
  · rw [decide_eq_false h, beq_eq_false_iff_ne]; exact h
theorem star_eq (m s : ByteArray) : starB (bs m) (bs s) = ((s.toList == [42]) && (m.toList == [79, 80, 84, 73, 79, 78, 83])) := by
  rw [lit_beq, lit_beq]; rfl
end Hd

set_option maxRecDepth 100000 in
set_option maxHeartbeats 2000000 in
theorem method_any (s : ByteArray) (w : World) (hs : s.size ≤ 1000000) :
    Calls Tryd.prog 37 #[.string s] w fun e w' => e = .returned (.bool (mthB (bs s))) ∧ w' = w := by
  go_enter Tryd.func37, Tryd.ntmps37
  go_wp2
  go_loop [3, 6] (fun _ i => ∃ k : Nat, i = .int .i64 k ∧ k ≤ s.size ∧ Hid (((bs s).take k).all upc = true)) (fun _ i => s.size - (intOf i).toNat)
  case atStart => exact ⟨0, rfl, by omega, rfl⟩
  case round =>
    obtain ⟨k, rfl, hk, ha⟩ := hrel
    by_cases hlt : k < s.size
    · have no : upc s[k] = true → Hid (((bs s).take (k + 1)).all upc = true) := fun ht => all_step (p := upc) hlt ha.out ht
      have yes : upc s[k] = false → Hid (mthB (bs s) = false) := fun ht => Lib.hid (mthB_fail (all_fail hlt ht))
      have key : s[k].toNat < 65 ∨ 90 < s[k].toNat ∨ (65 ≤ s[k].toNat ∧ s[k].toNat ≤ 90) := by omega
      rcases key with h | h | ⟨h, h'⟩
      · have e := yes (by unfold upc; simp; omega)
        clear no yes
        go_wp2
        go_ret
        exact ⟨congrArg (fun b => Ending.returned (.bool b)) e.out.symm, rfl⟩
      · have e := yes (by unfold upc; simp; omega)
        have h2 : 65 ≤ s[k].toNat := by omega
        clear no yes
        go_wp2
        go_ret
        exact ⟨congrArg (fun b => Ending.returned (.bool b)) e.out.symm, rfl⟩
      · have e := no (by unfold upc; simp; omega)
        clear no yes
        go_wp2
        go_round
        case rel => exact ⟨k + 1, by go_num, by omega, e⟩
        case measure => simp [intOf]; omega
    · obtain rfl : k = s.size := by omega
      have hf := Lib.hid (mthB_done (all_done ha.out) (bs_length s))
      by_cases h1 : 1 ≤ s.size
      · go_wp2
        go_ret
        exact ⟨congrArg (fun b => Ending.returned (.bool b)) (show decide ((s.size : Int) ≤ 16) = mthB (bs s) by rw [hf.out, decide_eq_true h1, Bool.true_and]; exact decide_eq_decide.2 (by omega)), rfl⟩
      · go_wp2
        go_ret
        exact ⟨by rw [hf.out, decide_eq_false h1]; rfl, rfl⟩

set_option maxRecDepth 100000 in
set_option maxHeartbeats 2000000 in
theorem rmethod_any (s : ByteArray) (w : World) (hs : s.size ≤ 1000000) :
    Calls Tryd.prog 41 #[.string s] w fun e w' => e = .returned (.bool (mthB (bs s))) ∧ w' = w := by
  go_enter Tryd.func41, Tryd.ntmps41
  go_wp2
  go_loop [3] (fun i => ∃ k : Nat, i = .int .i64 k ∧ k ≤ s.size ∧ Hid (((bs s).take k).all upc = true)) (fun i => s.size - (intOf i).toNat)
  case atStart => exact ⟨0, rfl, by omega, rfl⟩
  case round =>
    obtain ⟨k, rfl, hk, ha⟩ := hrel
    by_cases hlt : k < s.size
    · have no : upc s[k] = true → Hid (((bs s).take (k + 1)).all upc = true) := fun ht => all_step (p := upc) hlt ha.out ht
      have yes : upc s[k] = false → Hid (mthB (bs s) = false) := fun ht => Lib.hid (mthB_fail (all_fail hlt ht))
      have key : s[k].toNat < 65 ∨ 90 < s[k].toNat ∨ (65 ≤ s[k].toNat ∧ s[k].toNat ≤ 90) := by omega
      rcases key with h | h | ⟨h, h'⟩
      · have e := yes (by unfold upc; simp; omega)
        clear no yes
        go_wp2
        go_ret
        exact ⟨congrArg (fun b => Ending.returned (.bool b)) e.out.symm, rfl⟩
      · have e := yes (by unfold upc; simp; omega)
        have h2 : 65 ≤ s[k].toNat := by omega
        clear no yes
        go_wp2
        go_ret
        exact ⟨congrArg (fun b => Ending.returned (.bool b)) e.out.symm, rfl⟩
      · have e := no (by unfold upc; simp; omega)
        clear no yes
        go_wp2
        go_round
        case rel => exact ⟨k + 1, by go_num, by omega, e⟩
        case measure => simp [intOf]; omega
    · obtain rfl : k = s.size := by omega
      have hf := Lib.hid (mthB_done (all_done ha.out) (bs_length s))
      by_cases h1 : 1 ≤ s.size
      · go_wp2
        go_ret
        exact ⟨congrArg (fun b => Ending.returned (.bool b)) (show decide ((s.size : Int) ≤ 16) = mthB (bs s) by rw [hf.out, decide_eq_true h1, Bool.true_and]; exact decide_eq_decide.2 (by omega)), rfl⟩
      · go_wp2
        go_ret
        exact ⟨by rw [hf.out, decide_eq_false h1]; rfl, rfl⟩

set_option maxRecDepth 100000 in
set_option maxHeartbeats 4000000 in
theorem target_any (m s : ByteArray) (w : World) (hs : s.size ≤ 1000000) :
    Calls Tryd.prog 38 #[.string s, .string m] w fun e w' => e = .returned (.bool (tgtB (bs m) (bs s))) ∧ w' = w := by
  go_enter Tryd.func38, Tryd.ntmps38
  go_wp2
  go_loop [5, 8] (fun _ i => ∃ k : Nat, i = .int .i64 k ∧ k ≤ s.size ∧ Hid (((bs s).take k).all vis = true)) (fun _ i => s.size - (intOf i).toNat)
  case atStart => exact ⟨0, rfl, by omega, rfl⟩
  case round =>
    obtain ⟨k, rfl, hk, ha⟩ := hrel
    by_cases hlt : k < s.size
    · have no : vis s[k] = true → Hid (((bs s).take (k + 1)).all vis = true) := fun ht => all_step (p := vis) hlt ha.out ht
      have yes : vis s[k] = false → Hid (tgtB (bs m) (bs s) = false) := fun ht => Lib.hid (tgtB_fail (all_fail hlt ht))
      have key : s[k].toNat < 33 ∨ 126 < s[k].toNat ∨ (33 ≤ s[k].toNat ∧ s[k].toNat ≤ 126) := by omega
      rcases key with h | h | ⟨h, h'⟩
      · have e := yes (by unfold vis; simp; omega)
        clear no yes
        go_wp2
        go_ret
        exact ⟨congrArg (fun b => Ending.returned (.bool b)) e.out.symm, rfl⟩
      · have e := yes (by unfold vis; simp; omega)
        have h2 : 33 ≤ s[k].toNat := by omega
        clear no yes
        go_wp2
        go_ret
        exact ⟨congrArg (fun b => Ending.returned (.bool b)) e.out.symm, rfl⟩
      · have e := no (by unfold vis; simp; omega)
        clear no yes
        go_wp2
        go_round
        case rel => exact ⟨k + 1, by go_num, by omega, e⟩
        case measure => simp [intOf]; omega
    · obtain rfl : k = s.size := by omega
      have hf := Lib.hid (tgtB_done (m := bs m) (all_done ha.out) (bs_length s))
      by_cases h1 : 1 ≤ s.size
      · by_cases h2 : s.size ≤ 2048
        · have hb : (bs s).head? = some s[0] := head_at s h1
          by_cases c1 : s[0].toNat = 47
          · have q1 : ((s[0].toNat : Int) == 47) = true := beq_cast_true c1
            have hr := Lib.hid (show tgtB (bs m) (bs s) = true by rw [hf.out, decide_eq_true h1, decide_eq_true h2, hb, Option.any_some, slash_yes c1]; rfl)
            replace c1 := Lib.hid c1
            go_wp2
            go_ret
            exact ⟨congrArg (fun b => Ending.returned (.bool b)) hr.out.symm, rfl⟩
          · have q1 : ((s[0].toNat : Int) == 47) = false := beq_cast_false c1
            have hr := Lib.hid (show tgtB (bs m) (bs s) = ((s.toList == [42]) && (m.toList == [79, 80, 84, 73, 79, 78, 83])) by rw [hf.out, decide_eq_true h1, decide_eq_true h2, hb, Option.any_some, slash_no c1, star_eq]; rfl)
            replace c1 := Lib.hid c1
            cases r1 : (s.toList == [42])
            · go_wp2
              go_ret
              exact ⟨congrArg (fun b => Ending.returned (.bool b)) (show _ = tgtB (bs m) (bs s) by rw [hr.out, r1]; rfl), rfl⟩
            · cases r2 : (m.toList == [79, 80, 84, 73, 79, 78, 83])
              · go_wp2
                go_ret
                exact ⟨congrArg (fun b => Ending.returned (.bool b)) (show _ = tgtB (bs m) (bs s) by rw [hr.out, r1, r2]; rfl), rfl⟩
              · go_wp2
                go_ret
                exact ⟨congrArg (fun b => Ending.returned (.bool b)) (show _ = tgtB (bs m) (bs s) by rw [hr.out, r1, r2]; rfl), rfl⟩
        · have hr := Lib.hid (show tgtB (bs m) (bs s) = false by rw [hf.out, decide_eq_true h1, decide_eq_false h2]; rfl)
          go_wp2
          go_ret
          exact ⟨congrArg (fun b => Ending.returned (.bool b)) hr.out.symm, rfl⟩
      · have hr := Lib.hid (show tgtB (bs m) (bs s) = false by rw [hf.out, decide_eq_false h1]; rfl)
        go_wp2
        go_ret
        exact ⟨congrArg (fun b => Ending.returned (.bool b)) hr.out.symm, rfl⟩

set_option maxRecDepth 100000 in
set_option maxHeartbeats 4000000 in
theorem rtarget_any (m s : ByteArray) (w : World) (hs : s.size ≤ 1000000) :
    Calls Tryd.prog 42 #[.string m, .string s] w fun e w' => e = .returned (.bool (tgtB (bs m) (bs s))) ∧ w' = w := by
  go_enter Tryd.func42, Tryd.ntmps42
  go_wp2
  go_loop [5] (fun i => ∃ k : Nat, i = .int .i64 k ∧ k ≤ s.size ∧ Hid (((bs s).take k).all vis = true)) (fun i => s.size - (intOf i).toNat)
  case atStart => exact ⟨0, rfl, by omega, rfl⟩
  case round =>
    obtain ⟨k, rfl, hk, ha⟩ := hrel
    by_cases hlt : k < s.size
    · have no : vis s[k] = true → Hid (((bs s).take (k + 1)).all vis = true) := fun ht => all_step (p := vis) hlt ha.out ht
      have yes : vis s[k] = false → Hid (tgtB (bs m) (bs s) = false) := fun ht => Lib.hid (tgtB_fail (all_fail hlt ht))
      have key : s[k].toNat < 33 ∨ 126 < s[k].toNat ∨ (33 ≤ s[k].toNat ∧ s[k].toNat ≤ 126) := by omega
      rcases key with h | h | ⟨h, h'⟩
      · have e := yes (by unfold vis; simp; omega)
        clear no yes
        go_wp2
        go_ret
        exact ⟨congrArg (fun b => Ending.returned (.bool b)) e.out.symm, rfl⟩
      · have e := yes (by unfold vis; simp; omega)
        have h2 : 33 ≤ s[k].toNat := by omega
        clear no yes
        go_wp2
        go_ret
        exact ⟨congrArg (fun b => Ending.returned (.bool b)) e.out.symm, rfl⟩
      · have e := no (by unfold vis; simp; omega)
        clear no yes
        go_wp2
        go_round
        case rel => exact ⟨k + 1, by go_num, by omega, e⟩
        case measure => simp [intOf]; omega
    · obtain rfl : k = s.size := by omega
      have hf := Lib.hid (tgtB_done (m := bs m) (all_done ha.out) (bs_length s))
      by_cases h1 : 1 ≤ s.size
      · by_cases h2 : s.size ≤ 2048
        · have hb : (bs s).head? = some s[0] := head_at s h1
          by_cases c1 : s[0].toNat = 47
          · have q1 : ((s[0].toNat : Int) == 47) = true := beq_cast_true c1
            have hr := Lib.hid (show tgtB (bs m) (bs s) = true by rw [hf.out, decide_eq_true h1, decide_eq_true h2, hb, Option.any_some, slash_yes c1]; rfl)
            replace c1 := Lib.hid c1
            go_wp2
            go_ret
            exact ⟨congrArg (fun b => Ending.returned (.bool b)) hr.out.symm, rfl⟩
          · have q1 : ((s[0].toNat : Int) == 47) = false := beq_cast_false c1
            have hr := Lib.hid (show tgtB (bs m) (bs s) = ((s.toList == [42]) && (m.toList == [79, 80, 84, 73, 79, 78, 83])) by rw [hf.out, decide_eq_true h1, decide_eq_true h2, hb, Option.any_some, slash_no c1, star_eq]; rfl)
            replace c1 := Lib.hid c1
            cases r1 : (s.toList == [42])
            · go_wp2
              go_ret
              exact ⟨congrArg (fun b => Ending.returned (.bool b)) (show _ = tgtB (bs m) (bs s) by rw [hr.out, r1]; rfl), rfl⟩
            · cases r2 : (m.toList == [79, 80, 84, 73, 79, 78, 83])
              · go_wp2
                go_ret
                exact ⟨congrArg (fun b => Ending.returned (.bool b)) (show _ = tgtB (bs m) (bs s) by rw [hr.out, r1, r2]; rfl), rfl⟩
              · go_wp2
                go_ret
                exact ⟨congrArg (fun b => Ending.returned (.bool b)) (show _ = tgtB (bs m) (bs s) by rw [hr.out, r1, r2]; rfl), rfl⟩
        · have hr := Lib.hid (show tgtB (bs m) (bs s) = false by rw [hf.out, decide_eq_true h1, decide_eq_false h2]; rfl)
          go_wp2
          go_ret
          exact ⟨congrArg (fun b => Ending.returned (.bool b)) hr.out.symm, rfl⟩
      · have hr := Lib.hid (show tgtB (bs m) (bs s) = false by rw [hf.out, decide_eq_false h1]; rfl)
        go_wp2
        go_ret
        exact ⟨congrArg (fun b => Ending.returned (.bool b)) hr.out.symm, rfl⟩
end Go.Proofs.YtemlnmelicnneaaDoor
