/-
  Layer 1: the document's Unquote.
-/
import Derived.Test.YtjcgognngeagiaaDoorUnq
namespace Go.Proofs.YtjcgognngeagiaaDoor
open Go.RowKit Syn

set_option maxRecDepth 100000 in
set_option maxHeartbeats 2000000 in
theorem runquote_any (s : ByteArray) (w : World) (hs : s.size ≤ 5000000000) :
    Calls Tryd.prog 22 #[.string s] w fun e w' => e = .returned (unqR (unq (bs s))) ∧ w' = w := by
  have hct := fun w => rcontrol_any s w (by unfold maxLen; omega)
  cases hc : cln (bs s)
  · rw [unq_no (.inl hc)]
    rw [hc] at hct
    go_enter Tryd.func22, Tryd.ntmps22
    go_wp2_with (go_at_call 37; refine (hct _).mono ?_; rintro e w' ⟨rfl, rfl⟩)
    go_ret2
    exact ⟨rfl, rfl⟩
  rw [hc] at hct
  by_cases h2 : s.size < 2
  · rw [unq_no (.inr h2)]
    have hd2 : decide ((s.size : Int) < 2) = true := by simp; omega
    go_enter Tryd.func22, Tryd.ntmps22
    go_wp2_with (go_at_call 37; refine (hct _).mono ?_; rintro e w' ⟨rfl, rfl⟩)
    go_ret2
    exact ⟨rfl, rfl⟩
  have h2' : 2 ≤ s.size := by omega
  clear h2
  have hd2 : decide ((s.size : Int) < 2) = false := by simp; omega
  by_cases h0 : s[0].toNat = 34
  · have hb0 : ((s[0].toNat : Int) != 34) = false := by simp; omega
    have hU := Lib.hid (unq_yes hc (by omega) h0)
    clear h0
    go_enter Tryd.func22, Tryd.ntmps22
    go_wp2_with (go_at_call 37; refine (hct _).mono ?_; rintro e w' ⟨rfl, rfl⟩)
    clear hct
    go_loop [4, 5] (fun o i => ∃ (k : Nat) (acc : List UInt8), i = .int .i64 k ∧ k ≤ s.size + 1 ∧ Hid (acc.length ≤ k) ∧ o = .string (str acc) ∧ Hid (unq (bs s) = unqGo acc ((bs s).drop k))) (fun _ i => s.size + 1 - (intOf i).toNat)
    case atStart => exact ⟨1, [], rfl, by omega, by simp [Hid], rfl, hU⟩
    case round =>
      obtain ⟨k, acc, rfl, hk, hlen, rfl, hU⟩ := hrel
      have hlen' : acc.length ≤ 5000000001 := by have := hlen.out; omega
      by_cases hlt : k < s.size
      · have hdl : decide ((k : Int) < (s.size : Int)) = true := by simp; omega
        by_cases h34 : s[k].toNat = 34
        · have hb : ((s[k].toNat : Int) != 34) = false := by simp; omega
          have hr := hU.out.trans (unq_q hlt h34)
          clear h34
          by_cases he : k + 1 = s.size
          · rw [if_pos he] at hr
            replace hr := Lib.hid hr
            have hne : ((k : Int) != (s.size : Int) - 1) = false := by simp; omega
            go_wp2
            go_ret2
            exact ⟨by rw [hr.out]; rfl, rfl⟩
          · rw [if_neg he] at hr
            replace hr := Lib.hid hr
            have hne : ((k : Int) != (s.size : Int) - 1) = true := by simp; omega
            clear he
            go_wp2
            go_ret2
            exact ⟨by rw [hr.out]; rfl, rfl⟩
        · have hb : ((s[k].toNat : Int) != 34) = true := by simp; omega
          by_cases h92 : s[k].toNat = 92
          · have hb2 : ((s[k].toNat : Int) == 92) = true := u8_beq_true h92
            by_cases he : k + 1 < s.size
            · have hr := Lib.hid (hU.out.trans (unq_b2 hlt h92 he))
              have hx := extract_one s (k + 1) he
              have hsz2 : (str acc).size + (str [s[k + 1]]).size ≤ 9223372036854775807 := by rw [str_size, str_size]; simp; omega
              have q2 := Lib.hid (str_append acc [s[k + 1]])
              clear h34 h92
              go_wp2
              go_round
              case rel =>
                refine ⟨k + 1 + 1, acc ++ [s[k + 1]], by go_num, by omega, Lib.hid ?_, by rw [← q2.out], hr⟩
                have := hlen.out; simp; omega
              case measure => simp [intOf]; omega
            · have he' : k + 1 = s.size := by omega
              have hr := Lib.hid (hU.out.trans (unq_b hlt h92 he'))
              have hr2 : Hid (unq (bs s) = unqGo acc ((bs s).drop (k + 1 + 1))) := Lib.hid (hr.out.trans (unq_end (by omega)).symm)
              clear h34 h92
              go_wp2
              go_round
              case rel => exact ⟨k + 1 + 1, acc, by go_num, by omega, Lib.hid (by have := hlen.out; omega), rfl, hr2⟩
              case measure => simp [intOf]; omega
          · have hb2 : ((s[k].toNat : Int) == 92) = false := beq_cast_false h92
            have hr := Lib.hid (hU.out.trans (unq_o hlt h34 h92))
            have hx := extract_one s k hlt
            have hsz2 : (str acc).size + (str [s[k]]).size ≤ 9223372036854775807 := by rw [str_size, str_size]; simp; omega
            have q2 := Lib.hid (str_append acc [s[k]])
            clear h34 h92
            go_wp2
            go_round
            case rel =>
              refine ⟨k + 1, acc ++ [s[k]], by go_num, by omega, Lib.hid ?_, by rw [← q2.out], hr⟩
              have := hlen.out; simp; omega
            case measure => simp [intOf]; omega
      · have hr := Lib.hid (hU.out.trans (unq_end (by omega)))
        have hdl : decide ((k : Int) < (s.size : Int)) = false := by simp; omega
        have hne : ((k : Int) != (s.size : Int) - 1) = true := by simp; omega
        go_wp2
        go_ret2
        exact ⟨by rw [hr.out]; rfl, rfl⟩
  · rw [unq_no0 (by omega) h0]
    have hb0 : ((s[0].toNat : Int) != 34) = true := by simp; omega
    clear h0
    go_enter Tryd.func22, Tryd.ntmps22
    go_wp2_with (go_at_call 37; refine (hct _).mono ?_; rintro e w' ⟨rfl, rfl⟩)
    go_ret2
    exact ⟨rfl, rfl⟩
end Go.Proofs.YtjcgognngeagiaaDoor
