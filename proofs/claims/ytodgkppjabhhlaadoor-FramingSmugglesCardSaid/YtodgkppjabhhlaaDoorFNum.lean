/-
  Numbers of framing, the code's and the document's.
-/
import Derived.Test.YtodgkppjabhhlaaDoorFSpec
namespace Go.Proofs.YtodgkppjabhhlaaDoor
open Go.RowKit Syn Fr

theorem number_zero (x : List UInt8) : (number x).2 = 0 ∨ ((number x).1 = 0 ∧ ((number x).2 = 2 ∨ (number x).2 = 5)) := by
  unfold number
  split
  · split
    · right; exact ⟨rfl, .inr rfl⟩
    · left; rfl
  · right; exact ⟨rfl, .inl rfl⟩
theorem frnumber_any (s : ByteArray) (w : World) (hs : s.size ≤ maxLen) :
    Calls Tryd.prog 37 #[.string s] w fun e w' => e = .returned (.tuple #[.int .i64 ((number (bs s)).1 : Int), .bool (decide ((number (bs s)).2 = 0))]) ∧ ∃ n, w' = w.drewN n := by
  have hN := fun w => number_any s w hs
  rcases number_zero (bs s) with h | ⟨-, h | h⟩
  · rw [h] at hN ⊢
    generalize ((number (bs s)).1 : Int) = a at *
    rw [show errV 0 = .nilIface from rfl] at hN
    replace hN := Lib.hid hN
    go_enter Tryd.func37, Tryd.ntmps37
    go_wp2_with fail
    refine (hN.out _).mono ?_
    rintro e w' ⟨rfl, rfl⟩
    go_wp2_with fail
    go_quiet (fail)
    go_wp2
    go_ret2
    exact ⟨rfl, nq, rfl⟩
  · rw [h] at hN ⊢
    generalize ((number (bs s)).1 : Int) = a at *
    rw [show errV 2 = .iface 50 (.int .i64 2) from rfl] at hN
    replace hN := Lib.hid hN
    go_enter Tryd.func37, Tryd.ntmps37
    go_wp2_with fail
    refine (hN.out _).mono ?_
    rintro e w' ⟨rfl, rfl⟩
    go_wp2_with fail
    go_quiet (fail)
    go_wp2
    go_ret2
    exact ⟨rfl, nq, rfl⟩
  · rw [h] at hN ⊢
    generalize ((number (bs s)).1 : Int) = a at *
    rw [show errV 5 = .iface 50 (.int .i64 5) from rfl] at hN
    replace hN := Lib.hid hN
    go_enter Tryd.func37, Tryd.ntmps37
    go_wp2_with fail
    refine (hN.out _).mono ?_
    rintro e w' ⟨rfl, rfl⟩
    go_wp2_with fail
    go_quiet (fail)
    go_wp2
    go_ret2
    exact ⟨rfl, nq, rfl⟩
/-- The document's Number: -1 for none. -/
def refNum (x : List UInt8) : Int := if (number x).2 = 0 then ((number x).1 : Int) else -1
theorem refNum_no {x : List UInt8} (h : digits x = false) : refNum x = -1 := by unfold refNum number; rw [h]; rfl
theorem refNum_long {x : List UInt8} (h : 15 < x.length) : refNum x = -1 := by
  have e : (number x).2 ≠ 0 := by
    unfold number
    cases digits x
    · rw [if_neg (by decide)]; decide
    · rw [if_pos rfl, if_pos h]; decide
  unfold refNum; rw [if_neg e]
theorem refNum_yes {x : List UInt8} (h : digits x = true) (hl : x.length ≤ 15) : refNum x = (valGo 0 x : Int) := by
  have e : number x = (valGo 0 x, 0) := by unfold number; rw [if_pos h, if_neg (by omega)]
  unfold refNum; rw [e]; rfl
set_option maxHeartbeats 2000000 in
theorem refnum_any (s : ByteArray) (w : World) (hs : s.size ≤ maxLen) :
    Calls Tryd.prog 32 #[.string s] w fun e w' => e = .returned (.int .i64 (refNum (bs s))) ∧ w' = w := by
  unfold maxLen at hs
  go_enter Tryd.func32, Tryd.ntmps32
  go_wp2
  go_loop [3, 4] (fun n i => ∃ k m : Nat, i = .int .i64 (k : Int) ∧ n = .int .i64 (m : Int) ∧ k ≤ s.size ∧ m < 1000000000000000 ∧ Hid (((bs s).take k).all dig = true) ∧ Hid (m = valGo 0 ((bs s).take (min k 15)))) (fun _ i => s.size - (intOf i).toNat)
  case atStart => exact ⟨0, 0, rfl, rfl, by omega, by omega, rfl, by show 0 = valGo 0 (List.take (min 0 15) _); simp; rfl⟩
  case round =>
    obtain ⟨k, m, rfl, rfl, hk, hm, ha, hv⟩ := hrel
    by_cases hlt : k < s.size
    · have no : dig s[k] = false → Hid (refNum (bs s) = -1) := fun h => by
        refine Lib.hid (refNum_no ?_)
        unfold digits; rw [all_fail hlt h]; rfl
      by_cases h1 : s[k].toNat < 48
      · have e := no (by unfold dig; simp; omega)
        clear no
        go_wp2
        go_ret
        exact ⟨by rw [e.out]; rfl, rfl⟩
      · by_cases h2 : 57 < s[k].toNat
        · have e := no (by unfold dig; simp; omega)
          clear no
          go_wp2
          go_ret
          exact ⟨by rw [e.out]; rfl, rfl⟩
        · have hd : dig s[k] = true := by unfold dig; simp; omega
          have ha2 : Hid (((bs s).take (k + 1)).all dig = true) := Lib.hid (by rw [take_at s k hlt, List.all_append, ha.out]; simp [hd])
          clear no
          by_cases h15 : k < 15
          · have hv2 : 10 * m + (s[k].toNat - 48) = valGo 0 ((bs s).take (min (k + 1) 15)) := by
              have := hv.out
              rw [show min k 15 = k by omega] at this
              rw [show min (k + 1) 15 = k + 1 by omega, val_take s k hlt, ← this]
            have hbd : 10 * m + (s[k].toNat - 48) < 1000000000000000 := by
              rw [hv2, show min (k + 1) 15 = k + 1 by omega]
              exact val_lt _ ha2.out (by rw [List.length_take]; omega)
            replace hv2 := Lib.hid hv2
            go_wp2
            go_round
            case rel => exact ⟨k + 1, 10 * m + (s[k].toNat - 48), by go_num, by congr 1; omega, by omega, hbd, ha2, hv2⟩
            case measure => simp [intOf]; omega
          · have hv2 : Hid (m = valGo 0 ((bs s).take (min (k + 1) 15))) := Lib.hid (by
              have := hv.out
              rw [show min k 15 = 15 by omega] at this
              rw [show min (k + 1) 15 = 15 by omega]; exact this)
            go_wp2
            go_round
            case rel => exact ⟨k + 1, m, by go_num, rfl, by omega, hm, ha2, hv2⟩
            case measure => simp [intOf]; omega
    · obtain rfl : k = s.size := by omega
      have ha2 := ha.out
      rw [take_all] at ha2
      by_cases h0 : s.size < 1
      · have e : Hid (refNum (bs s) = -1) := Lib.hid (refNum_no (by
          have : bs s = [] := List.eq_nil_of_length_eq_zero (by rw [bs_length]; omega)
          rw [this]; rfl))
        go_wp2
        go_ret
        exact ⟨by rw [e.out]; rfl, rfl⟩
      · by_cases h15 : 15 < s.size
        · have e : Hid (refNum (bs s) = -1) := Lib.hid (refNum_long (by rw [bs_length]; exact h15))
          go_wp2
          go_ret
          exact ⟨by rw [e.out]; rfl, rfl⟩
        · have e : Hid (refNum (bs s) = (m : Int)) := Lib.hid (by
            rw [hv.out, show min s.size 15 = s.size by omega, take_all]
            refine refNum_yes ?_ (by rw [bs_length]; omega)
            unfold digits; rw [ha2]
            cases hb : bs s with
            | nil => have := bs_length s; rw [hb] at this; simp at this; omega
            | cons a r => rfl)
          clear ha2
          go_wp2
          go_ret
          exact ⟨by rw [e.out]; rfl, rfl⟩
end Go.Proofs.YtodgkppjabhhlaaDoor
