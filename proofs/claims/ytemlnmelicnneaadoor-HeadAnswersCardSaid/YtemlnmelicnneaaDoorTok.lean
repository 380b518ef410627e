/-
  Layer 1: bytes, tokens, cleanness: the code and the document's answer each by the same specification.
-/
import Derived.Test.YtemlnmelicnneaaDoorSpec
import Derived.Test.YtemlnmelicnneaaDoorShelf
import Derived.Deep.QuietTactic
import Derived.BigQuiet
namespace Go.Proofs.YtemlnmelicnneaaDoor
open Go.RowKit Syn

theorem punct_call (n : Nat) (h : n < 256) (w : World) :
    Calls Tryd.prog 106 #[.string ⟨#[33, 35, 36, 37, 38, 39, 42, 43, 45, 46, 94, 95, 96, 124, 126]⟩, .int .u8 (n : Int)] w fun e w' => ∃ k : Int, e = .returned (.int .i64 k) ∧ decide (0 ≤ k) = decide (n ∈ puncts) ∧ w' = w := by
  have hc := Any.strings_IndexByte Tryd.lays137 ⟨#[33, 35, 36, 37, 38, 39, 42, 43, 45, 46, 94, 95, 96, 124, 126]⟩ (n : Int) w
  refine hc.mono ?_
  rintro e w' ⟨rfl, rfl⟩
  exact ⟨_, rfl, (punct_at n h).trans (by simp), rfl⟩

theorem tcN_true {n : Nat} (h : (48 ≤ n ∧ n ≤ 57) ∨ (65 ≤ n ∧ n ≤ 90) ∨ (97 ≤ n ∧ n ≤ 122)) : tcN n = true := by
  unfold tcN; rcases h with h | h | h <;> simp [h.1, h.2]
theorem tcN_punct {n : Nat} (h : ¬ ((48 ≤ n ∧ n ≤ 57) ∨ (65 ≤ n ∧ n ≤ 90) ∨ (97 ≤ n ∧ n ≤ 122))) : tcN n = decide (n ∈ puncts) := by
  unfold tcN
  have h1 : (decide (48 ≤ n) && decide (n ≤ 57)) = false := by simp; omega
  have h2 : (decide (97 ≤ n) && decide (n ≤ 122)) = false := by simp; omega
  have h3 : (decide (65 ≤ n) && decide (n ≤ 90)) = false := by simp; omega
  rw [h1, h2, h3]; simp
/-- The seven places of a byte. -/
theorem seven (n : Nat) : n < 48 ∨ (48 ≤ n ∧ n ≤ 57) ∨ (57 < n ∧ n < 65) ∨ (65 ≤ n ∧ n ≤ 90) ∨ (90 < n ∧ n < 97) ∨ (97 ≤ n ∧ n ≤ 122) ∨ 122 < n := by omega
set_option maxHeartbeats 1000000 in
theorem tchar_any (n : Nat) (hn : n < 256) (w : World) :
    Calls Tryd.prog 80 #[.int .u8 (n : Int)] w fun e w' => e = .returned (.bool (tcN n)) ∧ w' = w := by
  by_cases h : (48 ≤ n ∧ n ≤ 57) ∨ (65 ≤ n ∧ n ≤ 90) ∨ (97 ≤ n ∧ n ≤ 122)
  · rw [tcN_true h]
    rcases h with h | h | h
    all_goals (go_enter Tryd.func80, Tryd.ntmps80; go_wp2_with fail; go_ret; exact ⟨rfl, rfl⟩)
  · have E := Lib.hid (tcN_punct h)
    rcases seven n with h1 | h1 | h1 | h1 | h1 | h1 | h1 <;> first
      | (exfalso; omega)
      | (go_enter Tryd.func80, Tryd.ntmps80
         go_wp2_with fail
         refine (punct_call n hn _).mono ?_
         rintro e w' ⟨k, rfl, hk, rfl⟩
         go_wp2
         go_ret
         exact ⟨congrArg (fun b => Ending.returned (.bool b)) E.out.symm, rfl⟩)

theorem beq_cast_false {a b : Nat} (h : a ≠ b) : (((a : Int)) == (b : Int)) = false := by simp; omega
theorem beq_cast_true {a b : Nat} (h : a = b) : (((a : Int)) == (b : Int)) = true := by simp [h]
theorem nopunct {s : ByteArray} {n : Nat} (hm : (bs s).map UInt8.toNat = puncts) (h : ∀ (j : Nat) (c : UInt8), (bs s)[j]? = some c → c.toNat ≠ n) : decide (n ∈ puncts) = false := by
  rw [← hm]
  simp only [List.mem_map, decide_eq_false_iff_not, not_exists, not_and]
  intro c hc
  obtain ⟨j, hj⟩ := List.getElem?_of_mem hc
  exact h j c hj
theorem inpunct {s : ByteArray} {n k : Nat} (hm : (bs s).map UInt8.toNat = puncts) (hk : k < s.size) (h : s[k].toNat = n) : decide (n ∈ puncts) = true := by
  rw [← hm, decide_eq_true_eq, List.mem_map]
  exact ⟨s[k], List.mem_of_getElem? (byte_at s k hk), h⟩
set_option maxHeartbeats 1000000 in
theorem rtchar_any (n : Nat) (hn : n < 256) (w : World) :
    Calls Tryd.prog 92 #[.int .u8 (n : Int)] w fun e w' => e = .returned (.bool (tcN n)) ∧ w' = w := by
  by_cases h : (48 ≤ n ∧ n ≤ 57) ∨ (65 ≤ n ∧ n ≤ 90) ∨ (97 ≤ n ∧ n ≤ 122)
  · rw [tcN_true h]
    rcases h with h | h | h
    all_goals (go_enter Tryd.func92, Tryd.ntmps92; go_wp2_with fail; go_ret; exact ⟨rfl, rfl⟩)
  · rw [tcN_punct h]
    rcases seven n with h1 | h1 | h1 | h1 | h1 | h1 | h1 <;> first
      | (exfalso; omega)
      | (go_enter Tryd.func92, Tryd.ntmps92
         go_wp2
         obtain ⟨s, hs⟩ : ∃ s : ByteArray, s = ⟨#[33, 35, 36, 37, 38, 39, 42, 43, 45, 46, 94, 95, 96, 124, 126]⟩ := ⟨_, rfl⟩
         rw [← hs]
         have hm : Hid ((bs s).map UInt8.toNat = puncts) := Lib.hid (by rw [hs]; decide)
         have hz : s.size = 15 := by rw [hs]; rfl
         clear hs
         go_loop [4, 29] (fun _ i => ∃ k : Nat, i = .int .i64 k ∧ k ≤ 15 ∧ Hid (∀ j c, j < k → (bs s)[j]? = some c → c.toNat ≠ n)) (fun _ i => 15 - (intOf i).toNat)
         case atStart => exact ⟨0, rfl, by omega, fun j c hj => absurd hj (Nat.not_lt_zero _)⟩
         case round =>
           obtain ⟨k, rfl, hk, hno⟩ := hrel
           by_cases hlt : k < 15
           · have hlt' : k < s.size := by omega
             by_cases he : s[k].toNat = n
             · have hb := beq_cast_true he
               have hr := Lib.hid (inpunct hm.out hlt' he)
               clear he
               go_wp2
               go_ret
               exact ⟨congrArg (fun b => Ending.returned (.bool b)) hr.out.symm, rfl⟩
             · have hb := beq_cast_false he
               have he := Lib.hid he
               go_wp2
               go_round
               case rel =>
                 refine ⟨k + 1, by go_num, by omega, ?_⟩
                 intro j c hj hc
                 rcases Nat.lt_or_ge j k with h' | h'
                 · exact hno.out j c h' hc
                 · obtain rfl : j = k := by omega
                   rw [byte_at s j hlt'] at hc
                   cases hc
                   exact he.out
               case measure => simp [intOf]; omega
           · have hr := Lib.hid (nopunct hm.out (fun j c hc => hno.out j c (by have := List.getElem?_eq_some_iff.mp hc; have := this.1; rw [bs_length] at this; omega) hc))
             obtain rfl : k = 15 := by omega
             go_wp2
             go_ret
             exact ⟨congrArg (fun b => Ending.returned (.bool b)) hr.out.symm, rfl⟩)

section
variable {p : UInt8 → Bool} {s : ByteArray} {k : Nat}
theorem all_step (h : k < s.size) (ha : ((bs s).take k).all p = true) (hp : p s[k] = true) : ((bs s).take (k + 1)).all p = true := by
  rw [take_at s k h, List.all_append, ha]; simp [hp]
theorem all_fail (h : k < s.size) (hp : p s[k] = false) : (bs s).all p = false := by
  rw [List.all_eq_false]; exact ⟨s[k], List.mem_of_getElem? (byte_at s k h), by simp [hp]⟩
theorem all_done (ha : ((bs s).take s.size).all p = true) : (bs s).all p = true := by rwa [take_all] at ha
end
theorem isEmpty_bs (s : ByteArray) : (bs s).isEmpty = decide (s.size = 0) := by
  rw [← bs_length]; cases bs s <;> simp
theorem tok_fail {s : ByteArray} {k : Nat} (h : k < s.size) (hp : tc s[k] = false) : isTok (bs s) = false := by unfold isTok; rw [all_fail h hp]; rfl
theorem tok_done {s : ByteArray} (ha : ((bs s).take s.size).all tc = true) : isTok (bs s) = decide (0 < s.size) := by
  unfold isTok; rw [all_done ha, isEmpty_bs]; simp [Nat.pos_iff_ne_zero]
theorem toList_isEmpty (s : ByteArray) : s.toList.isEmpty = decide (s.size = 0) := by rw [ByteArray.toList_eq]; exact isEmpty_bs s
theorem ne_empty (s : ByteArray) : decide (0 < s.size) = !s.toList.isEmpty := by
  rw [toList_isEmpty]; by_cases h : s.size = 0 <;> simp [h]; omega

set_option maxHeartbeats 1000000 in
theorem token_any (s : ByteArray) (w : World) (hs : s.size ≤ maxLen) :
    Calls Tryd.prog 63 #[.string s] w fun e w' => e = .returned (.bool (isTok (bs s))) ∧ w' = w := by
  unfold maxLen at hs
  go_enter Tryd.func63, Tryd.ntmps63
  go_wp2
  go_loop [3, 6] (fun _ i => ∃ k : Nat, i = .int .i64 k ∧ k ≤ s.size ∧ Hid (((bs s).take k).all tc = true)) (fun _ i => s.size - (intOf i).toNat)
  case atStart => exact ⟨0, rfl, by omega, rfl⟩
  case round =>
    obtain ⟨k, rfl, hk, ha⟩ := hrel
    by_cases hlt : k < s.size
    · have hb : s[k].toNat < 256 := s[k].toNat_lt
      cases ht : tcN s[k].toNat
      · have hf := Lib.hid (tok_fail hlt ht)
        go_wp2_with fail
        refine (tchar_any _ hb _).mono ?_
        rintro e w' ⟨rfl, rfl⟩
        rw [ht]
        go_wp2
        go_ret
        exact ⟨congrArg (fun b => Ending.returned (.bool b)) hf.out.symm, rfl⟩
      · have hf := Lib.hid (all_step hlt ha.out ht)
        go_wp2_with fail
        refine (tchar_any _ hb _).mono ?_
        rintro e w' ⟨rfl, rfl⟩
        rw [ht]
        go_wp2
        go_round
        case rel => exact ⟨k + 1, by go_num, by omega, hf⟩
        case measure => simp [intOf]; omega
    · obtain rfl : k = s.size := by omega
      have hf := Lib.hid ((tok_done ha.out).trans (ne_empty s))
      go_wp2
      go_ret
      exact ⟨congrArg (fun b => Ending.returned (.bool b)) hf.out.symm, rfl⟩
set_option maxHeartbeats 1000000 in
theorem rtoken_any (s : ByteArray) (w : World) (hs : s.size ≤ maxLen) :
    Calls Tryd.prog 68 #[.string s] w fun e w' => e = .returned (.bool (isTok (bs s))) ∧ w' = w := by
  unfold maxLen at hs
  go_enter Tryd.func68, Tryd.ntmps68
  go_wp2
  go_loop [3, 6] (fun _ i => ∃ k : Nat, i = .int .i64 k ∧ k ≤ s.size ∧ Hid (((bs s).take k).all tc = true)) (fun _ i => s.size - (intOf i).toNat)
  case atStart => exact ⟨0, rfl, by omega, rfl⟩
  case round =>
    obtain ⟨k, rfl, hk, ha⟩ := hrel
    by_cases hlt : k < s.size
    · have hb : s[k].toNat < 256 := s[k].toNat_lt
      cases ht : tcN s[k].toNat
      · have hf := Lib.hid (tok_fail hlt ht)
        go_wp2_with fail
        refine (rtchar_any _ hb _).mono ?_
        rintro e w' ⟨rfl, rfl⟩
        rw [ht]
        go_wp2
        go_ret
        exact ⟨congrArg (fun b => Ending.returned (.bool b)) hf.out.symm, rfl⟩
      · have hf := Lib.hid (all_step hlt ha.out ht)
        go_wp2_with fail
        refine (rtchar_any _ hb _).mono ?_
        rintro e w' ⟨rfl, rfl⟩
        rw [ht]
        go_wp2
        go_round
        case rel => exact ⟨k + 1, by go_num, by omega, hf⟩
        case measure => simp [intOf]; omega
    · obtain rfl : k = s.size := by omega
      have hf := Lib.hid (tok_done ha.out)
      go_wp2
      go_ret
      exact ⟨congrArg (fun b => Ending.returned (.bool b)) hf.out.symm, rfl⟩

theorem cln_fail {s : ByteArray} {k : Nat} (h : k < s.size) (hp : ctlN s[k].toNat = true) : cln (bs s) = false := all_fail h (by show (!ctlN s[k].toNat) = false; rw [hp]; rfl)
set_option maxHeartbeats 1000000 in
theorem rcontrol_any (s : ByteArray) (w : World) (hs : s.size ≤ maxLen) :
    Calls Tryd.prog 69 #[.string s] w fun e w' => e = .returned (.bool (!cln (bs s))) ∧ w' = w := by
  unfold maxLen at hs
  go_enter Tryd.func69, Tryd.ntmps69
  go_wp2
  go_loop [3, 6] (fun _ i => ∃ k : Nat, i = .int .i64 k ∧ k ≤ s.size ∧ Hid (((bs s).take k).all (fun c => !ctl c) = true)) (fun _ i => s.size - (intOf i).toNat)
  case atStart => exact ⟨0, rfl, by omega, rfl⟩
  case round =>
    obtain ⟨k, rfl, hk, ha⟩ := hrel
    by_cases hlt : k < s.size
    · have key : s[k].toNat < 32 ∧ s[k].toNat ≠ 9 ∨ s[k].toNat = 9 ∨ s[k].toNat = 127 ∨ (32 ≤ s[k].toNat ∧ s[k].toNat ≠ 127) := by omega
      have no : ctlN s[k].toNat = false → Hid (((bs s).take (k + 1)).all (fun c => !ctl c) = true) := fun ht => all_step (p := fun c => !ctl c) hlt ha.out (by show (!ctlN s[k].toNat) = true; rw [ht]; rfl)
      have yes : ctlN s[k].toNat = true → Hid ((!cln (bs s)) = true) := fun ht => by rw [cln_fail hlt ht]; rfl
      rcases key with h | h | h | h
      · have e := yes (by unfold ctlN; simp [h.1, h.2])
        have h0 := h.1
        have h1 := beq_cast_false h.2
        clear no yes
        go_wp2
        go_ret
        exact ⟨congrArg (fun b => Ending.returned (.bool b)) e.out.symm, rfl⟩
      · have e := no (by rw [h]; rfl)
        have h1 := beq_cast_true h
        have h2 := beq_cast_false (show s[k].toNat ≠ 127 by omega)
        clear no yes
        go_wp2
        go_round
        case rel => exact ⟨k + 1, by go_num, by omega, e⟩
        case measure => simp [intOf]; omega
      · have e := yes (by rw [h]; rfl)
        have h2 := beq_cast_true h
        clear no yes
        go_wp2
        go_ret
        exact ⟨congrArg (fun b => Ending.returned (.bool b)) e.out.symm, rfl⟩
      · have e := no (by unfold ctlN; simp; omega)
        have h0 := h.1
        have h2 := beq_cast_false h.2
        clear no yes
        go_wp2
        go_round
        case rel => exact ⟨k + 1, by go_num, by omega, e⟩
        case measure => simp [intOf]; omega
    · obtain rfl : k = s.size := by omega
      have hf : Hid ((!cln (bs s)) = false) := by rw [show cln (bs s) = true from all_done ha.out]; rfl
      go_wp2
      go_ret
      exact ⟨congrArg (fun b => Ending.returned (.bool b)) hf.out.symm, rfl⟩
end Go.Proofs.YtemlnmelicnneaaDoor
