/-
  Layer 5: lines that end as they should.
-/
import Derived.Test.YtemlnmelicnneaaDoorHMeth
namespace Go.Proofs.YtemlnmelicnneaaDoor
open Go.RowKit Syn Hd

namespace Hd
/-- Has every CR its LF, every LF its CR, and is there no byte 0? The flag: the byte before is a CR. -/
def strR : Bool → List UInt8 → Bool
  | cr, [] => !cr
  | cr, c :: r => if c.toNat = 0 then false else if c.toNat = 10 then cr && strR false r else if cr then false else strR (decide (c.toNat = 13)) r
def strB (l : List UInt8) : Bool := strR false l
theorem strR_lf {cr : Bool} {c : UInt8} {r : List UInt8} (h : c.toNat = 10) : strR cr (c :: r) = (cr && strR false r) := by
  rw [strR, if_neg (by omega), if_pos h]
theorem strR_no {c : UInt8} {r : List UInt8} {cr : Bool} (h : c.toNat = 0) : strR cr (c :: r) = false := by rw [strR, if_pos h]
theorem strR_cr {c : UInt8} {r : List UInt8} (h : c.toNat ≠ 10) : strR true (c :: r) = false := by
  rw [strR]
  by_cases h0 : c.toNat = 0
  · rw [if_pos h0]
  · rw [if_neg h0, if_neg h]; rfl
theorem strR_go {c : UInt8} {r : List UInt8} (h0 : c.toNat ≠ 0) (h : c.toNat ≠ 10) : strR false (c :: r) = strR (decide (c.toNat = 13)) r := by
  rw [strR, if_neg h0, if_neg h]; rfl
end Hd
set_option maxRecDepth 100000 in
set_option maxHeartbeats 4000000 in
theorem straight_any (s : ByteArray) (w : World) (hs : s.size ≤ 1000000) :
    Calls Tryd.prog 60 #[.string s] w fun e w' => e = .returned (.bool (strB (bs s))) ∧ w' = w := by
  go_enter Tryd.func60, Tryd.ntmps60
  go_wp2
  go_loop [3, 6] (fun _ i => ∃ (k : Nat) (cr : Bool), i = .int .i64 (k : Int) ∧ k ≤ s.size ∧ Hid (strB (bs s) = strR cr ((bs s).drop k)) ∧ Hid (cr = true → 0 < k ∧ (bs s)[k - 1]?.map UInt8.toNat = some 13 ∧ (bs s)[k]?.map UInt8.toNat = some 10) ∧ Hid (cr = false → k = 0 ∨ (bs s)[k - 1]?.map UInt8.toNat ≠ some 13)) (fun _ i => s.size - (intOf i).toNat)
  case atStart => exact ⟨0, false, rfl, by omega, Lib.hid rfl, Lib.hid (fun h => by cases h), Lib.hid (fun _ => .inl rfl)⟩
  case round =>
    obtain ⟨k, cr, rfl, hk, hst, hcr, hnc⟩ := hrel
    by_cases hlt : k < s.size
    · have hd := drop_at s k hlt
      have hst2 := hst.out
      rw [hd] at hst2
      have hbk : (bs s)[k]?.map UInt8.toNat = some s[k].toNat := by rw [byte_at s k hlt]; rfl
      by_cases c0 : s[k].toNat = 0
      · have q0 : ((s[k].toNat : Int) == 0) = true := beq_cast_true c0
        have hf := Lib.hid (show false = strB (bs s) by rw [hst2, strR_no c0])
        replace c0 := Lib.hid c0
        clear hst2 hd hbk
        go_wp2
        go_ret
        exact ⟨congrArg (fun b => Ending.returned (.bool b)) hf.out, rfl⟩
      · have q0 : ((s[k].toNat : Int) == 0) = false := beq_cast_false c0
        by_cases c13 : s[k].toNat = 13
        · have q13 : ((s[k].toNat : Int) == 13) = true := beq_cast_true c13
          have hcf : cr = false := by
            cases cr with
            | false => rfl
            | true => have := (hcr.out rfl).2.2; rw [hbk, c13] at this; cases this
          subst hcf
          rw [strR_go c0 (by omega), c13] at hst2
          by_cases hend : k + 1 = s.size
          · have q1 : ((k : Int) + 1 == (s.size : Int)) = true := by rw [← hend]; exact beq_iff_eq.2 (by omega)
            have hf := Lib.hid (show false = strB (bs s) by rw [hst2, List.drop_of_length_le (by rw [bs_length]; omega)]; rfl)
            replace c0 := Lib.hid c0
            replace c13 := Lib.hid c13
            replace hend := Lib.hid hend
            clear hst2 hd hbk
            go_wp2
            go_ret
            exact ⟨congrArg (fun b => Ending.returned (.bool b)) hf.out, rfl⟩
          · have q1 : ((k : Int) + 1 == (s.size : Int)) = false := by rw [beq_eq_false_iff_ne]; omega
            have hlt1 : k + 1 < s.size := by omega
            have hd1 := drop_at s (k + 1) hlt1
            rw [hd1] at hst2
            have hbk1 : (bs s)[k + 1]?.map UInt8.toNat = some s[k + 1].toNat := by rw [byte_at s (k + 1) hlt1]; rfl
            by_cases c10 : s[k + 1].toNat = 10
            · have q2 : ((s[k + 1].toNat : Int) != 10) = false := by rw [c10]; rfl
              have hA : Hid (strB (bs s) = strR true ((bs s).drop (k + 1))) := Lib.hid (by rw [hst2, ← hd1]; rfl)
              have hB : Hid (0 < k + 1 ∧ (bs s)[k + 1 - 1]?.map UInt8.toNat = some 13 ∧ (bs s)[k + 1]?.map UInt8.toNat = some 10) := Lib.hid ⟨by omega, by rw [Nat.add_sub_cancel, hbk, c13], by rw [hbk1, c10]⟩
              replace c0 := Lib.hid c0
              replace c13 := Lib.hid c13
              replace c10 := Lib.hid c10
              clear hst2 hd hbk hd1 hbk1
              go_wp2
              go_round
              case rel => exact ⟨k + 1, true, by go_num, by omega, hA, Lib.hid (fun _ => hB.out), Lib.hid (fun h => by cases h)⟩
              case measure => simp [intOf]; omega
            · have q2 : ((s[k + 1].toNat : Int) != 10) = true := by rw [bne, show ((s[k + 1].toNat : Int) == 10) = false from beq_cast_false c10]; rfl
              have hf := Lib.hid (show false = strB (bs s) by rw [hst2, show decide (13 = 13) = true from rfl, strR_cr c10])
              replace c0 := Lib.hid c0
              replace c13 := Lib.hid c13
              replace c10 := Lib.hid c10
              clear hst2 hd hbk hd1 hbk1
              go_wp2
              go_ret
              exact ⟨congrArg (fun b => Ending.returned (.bool b)) hf.out, rfl⟩
        · have q13 : ((s[k].toNat : Int) == 13) = false := beq_cast_false c13
          by_cases c10 : s[k].toNat = 10
          · have q10 : ((s[k].toNat : Int) == 10) = true := beq_cast_true c10
            rw [strR_lf c10] at hst2
            cases cr with
            | true =>
              obtain ⟨h1, h2, -⟩ := hcr.out rfl
              obtain ⟨j, rfl⟩ : ∃ j, k = j + 1 := ⟨k - 1, by omega⟩
              have hjs : j < s.size := by omega
              rw [Nat.add_sub_cancel, byte_at s j hjs] at h2
              have h3 : s[j].toNat = 13 := by simpa using h2
              have q3 : ((s[j].toNat : Int) != 13) = false := by rw [h3]; rfl
              have hA : Hid (strB (bs s) = strR false ((bs s).drop (j + 1 + 1))) := Lib.hid hst2
              have hB : Hid (j + 1 + 1 = 0 ∨ (bs s)[j + 1 + 1 - 1]?.map UInt8.toNat ≠ some 13) := Lib.hid (.inr (by rw [Nat.add_sub_cancel, hbk, c10]; decide))
              replace c0 := Lib.hid c0
              replace c13 := Lib.hid c13
              replace c10 := Lib.hid c10
              replace h3 := Lib.hid h3
              clear hst2 hd hbk h2
              go_wp2
              go_round
              case rel => exact ⟨j + 1 + 1, false, by go_num, by omega, hA, Lib.hid (fun h => by cases h), Lib.hid (fun _ => hB.out)⟩
              case measure => simp [intOf]; omega
            | false =>
              have hf := Lib.hid (show false = strB (bs s) by rw [hst2]; rfl)
              rcases hnc.out rfl with h1 | h1
              · subst h1
                replace c0 := Lib.hid c0
                replace c13 := Lib.hid c13
                replace c10 := Lib.hid c10
                clear hst2 hd hbk
                go_wp2
                go_ret
                exact ⟨congrArg (fun b => Ending.returned (.bool b)) hf.out, rfl⟩
              · by_cases h2 : k = 0
                · subst h2
                  replace c0 := Lib.hid c0
                  replace c13 := Lib.hid c13
                  replace c10 := Lib.hid c10
                  clear hst2 hd hbk h1
                  go_wp2
                  go_ret
                  exact ⟨congrArg (fun b => Ending.returned (.bool b)) hf.out, rfl⟩
                · obtain ⟨j, rfl⟩ : ∃ j, k = j + 1 := ⟨k - 1, by omega⟩
                  have hjs : j < s.size := by omega
                  rw [Nat.add_sub_cancel, byte_at s j hjs] at h1
                  have h3 : s[j].toNat ≠ 13 := fun h => h1 (by rw [Option.map_some, h])
                  have q3 : ((s[j].toNat : Int) != 13) = true := by rw [bne, show ((s[j].toNat : Int) == 13) = false from beq_cast_false h3]; rfl
                  replace c0 := Lib.hid c0
                  replace c13 := Lib.hid c13
                  replace c10 := Lib.hid c10
                  replace h3 := Lib.hid h3
                  clear hst2 hd hbk h1
                  go_wp2
                  go_ret
                  exact ⟨congrArg (fun b => Ending.returned (.bool b)) hf.out, rfl⟩
          · have q10 : ((s[k].toNat : Int) == 10) = false := beq_cast_false c10
            have hcf : cr = false := by
              cases cr with
              | false => rfl
              | true => have := (hcr.out rfl).2.2; rw [hbk] at this; exact absurd (Option.some.inj this) c10
            subst hcf
            rw [strR_go c0 c10, decide_eq_false c13] at hst2
            have hB : Hid (k + 1 = 0 ∨ (bs s)[k + 1 - 1]?.map UInt8.toNat ≠ some 13) := Lib.hid (.inr (by rw [Nat.add_sub_cancel, hbk]; exact fun h => c13 (Option.some.inj h)))
            have hA := Lib.hid hst2
            replace c0 := Lib.hid c0
            replace c13 := Lib.hid c13
            replace c10 := Lib.hid c10
            clear hst2 hd hbk
            go_wp2
            go_round
            case rel => exact ⟨k + 1, false, by go_num, by omega, hA, Lib.hid (fun h => by cases h), Lib.hid (fun _ => hB.out)⟩
            case measure => simp [intOf]; omega
    · obtain rfl : k = s.size := by omega
      have hcf : cr = false := by
        cases cr with
        | false => rfl
        | true => have := (hcr.out rfl).2.2; rw [List.getElem?_eq_none (by rw [bs_length]; exact Nat.le_refl _)] at this; cases this
      subst hcf
      have hf := Lib.hid (show true = strB (bs s) by rw [hst.out, drop_all]; rfl)
      go_wp2
      go_ret
      exact ⟨congrArg (fun b => Ending.returned (.bool b)) hf.out, rfl⟩
end Go.Proofs.YtemlnmelicnneaaDoor
