/-
  The walk of SyntaxNumbers.
-/
import Derived.Test.YtjcgognngeagiaaDoorDec
import Derived.Test.YtjcgognngeagiaaDoorAwake
namespace Go.Proofs.YtjcgognngeagiaaDoor
open Go.RowKit Syn

theorem clip_any (n : Int) (w : World) :
    Calls Tryd.prog 18 #[.int .i64 n, .int .i64 0, .int .i64 999999999999999] w fun e w' => ∃ m : Nat, e = .returned (.int .i64 (m : Int)) ∧ m < 1000000000000000 ∧ w' = w := by
  go_enter Tryd.func18, Tryd.ntmps18
  go_wp2
  go_ret
  refine ⟨(max 0 (min n 999999999999999)).toNat, ?_, by omega, rfl⟩
  have : ((max 0 (min n 999999999999999)).toNat : Int) = max 0 (min n 999999999999999) := by omega
  rw [this]; rfl
set_option maxRecDepth 100000 in
set_option maxHeartbeats 4000000 in
theorem numbers_walk (n z : Int) (s : ByteArray) (w : World) (hz : (Lit.int .u8 z).wf = true) (hs : s.size ≤ maxLen) :
    Calls Tryd.prog 5 #[.int .i64 n, .int .u8 z, .string s] w fun e w' => e = .returned (.bool true) ∧ Below w.heap.size w w' := by
  unfold maxLen at hs
  go_enter Tryd.func5, Tryd.ntmps5
  go_wp2_with fail
  refine (awake_any _).mono ?_
  rintro e w1 ⟨rfl, hb1⟩
  replace hb1 := Lib.hid hb1
  go_wp2_with fail
  refine (clip_any n _).mono ?_
  rintro e w2 ⟨m, rfl, hm, rfl⟩
  have hD := Dec.start hm
  go_wp2
  go_loopw [7, 8] (fun t r wr => ∃ (k : Nat) (l : List UInt8), r = .int .i64 (k : Int) ∧ t = .string (str l) ∧ k ≤ m ∧ Hid (Dec m k l) ∧ Hid (Below w2.heap.size w2 wr)) (fun t r _ => 2 * (intOf r).toNat + (if sizeV t = 0 then 1 else 0))
  case atStart => exact ⟨m, [], rfl, rfl, by omega, hD, Below.refl _ _⟩
  case round =>
    obtain ⟨k, l, rfl, rfl, hkm, hDl, hB⟩ := hrel
    have hBw := hB.out.size
    have hlen := hDl.out.length
    by_cases hgo : 0 < k ∨ l = []
    · obtain ⟨c, hc⟩ : ∃ c : UInt8, c.toNat = 48 + k % 10 := ⟨UInt8.ofNat (48 + k % 10), by rw [UInt8.toNat_ofNat']; omega⟩
      have hn := Lib.hid (hDl.out.step hgo hc)
      have hcv := run_byte wr c
      have e : ((c.toNat : Nat) : Int) = 48 + (k : Int) % 10 := by omega
      rw [e] at hcv
      clear e
      have hsz : (str [c]).size + (str l).size ≤ 9223372036854775807 := by rw [str_size, str_size]; simp; omega
      have hq := Lib.hid (str_append [c] l)
      have hsv := Lib.hid (show ¬ sizeV (.string (str [c] ++ str l)) = 0 by rw [str_append]; show ¬ ([c] ++ l).length = 0; simp)
      have hB' := Lib.hid (fun o => hB.out.alloc hBw o)
      by_cases h0 : 0 < k
      · have hd : decide ((0 : Int) < (k : Int)) = true := by rw [decide_eq_true_iff]; omega
        go_wp2
        go_roundw
        case rel => exact ⟨k / 10, c :: l, by go_num, by rw [hq.out]; rfl, by omega, hn, Lib.hid (hB'.out _)⟩
        case measure => rw [if_neg hsv.out]; simp [intOf]; omega
      · obtain rfl : k = 0 := by omega
        have hl : l = [] := by rcases hgo with h | h; omega; exact h
        subst hl
        rw [show (48 + ((0 : Nat) : Int) % 10) = 48 from rfl] at hcv
        have he : (str []).toList.isEmpty = true := by rw [str_isEmpty]; rfl
        go_wp2
        go_roundw
        case rel => exact ⟨0 / 10, c :: [], by go_num, by rw [hq.out]; rfl, by omega, hn, Lib.hid (hB'.out _)⟩
        case measure => rw [if_neg hsv.out, if_pos (show sizeV (.string (str [])) = 0 from rfl)]; simp [intOf]
    · have hk0 : k = 0 := by omega
      subst hk0
      have hne : l ≠ [] := fun h => hgo (.inr h)
      have he : (str l).toList.isEmpty = false := by rw [str_isEmpty]; cases l with | nil => exact absurd rfl hne | cons => rfl
      have hv := hDl.out.done
      have hdg := hDl.out.dig
      clear hgo hDl
      obtain ⟨hz0, hz1⟩ := Go.bounds_u8 hz
      have hzm : z.tmod 20 = ((z.toNat % 20 : Nat) : Int) := by
        rw [Int.tmod_eq_emod_of_nonneg hz0]; omega
      have hz20 := Nat.mod_lt z.toNat (show 20 > 0 by decide)
      generalize hzk : z.toNat % 20 = zk at *
      have hv' := Lib.hid hv
      have hdg' := Lib.hid hdg
      have hne' := Lib.hid hne
      have hB' := hB
      clear hv hdg hne hzk
      go_wp2
      clear he
      go_loopw [7, 36] (fun t j wr => ∃ (k : Nat) (l' : List UInt8), t = .string (str l') ∧ j = .int .u8 (k : Int) ∧ k ≤ zk ∧ l'.length = l.length + k ∧ Hid (valGo 0 l' = m) ∧ Hid (l'.all dig = true) ∧ Hid (l' ≠ []) ∧ Hid (Below w2.heap.size w2 wr)) (fun _ j _ => zk - (intOf j).toNat)
      case atStart => exact ⟨0, l, rfl, rfl, by omega, rfl, hv', hdg', hne', hB'⟩
      case round =>
        clear hv' hdg' hne' hB' hB hBw
        obtain ⟨k, l', rfl, rfl, hk, hl', hv, hdg, hne, hB⟩ := hrel
        by_cases hlt : k < zk
        · have hsz : (⟨#[48]⟩ : ByteArray).size + (str l').size ≤ 9223372036854775807 := by rw [str_size]; show 1 + _ ≤ _; omega
          have hq := Lib.hid (str_append [48] l')
          go_wp2
          go_roundw
          case rel => exact ⟨k + 1, 48 :: l', by show Value.string (str [48] ++ str l') = _; rw [hq.out]; rfl, by go_num, by omega, by rw [List.length_cons]; omega, Lib.hid ((val_zero l').trans hv.out), Lib.hid (by rw [List.all_cons, hdg.out]; rfl), Lib.hid (by simp), hB⟩
          case measure => simp [intOf]; omega
        · obtain rfl : k = zk := by omega
          have hnum := Lib.hid (number_of hdg.out hne.out hv.out)
          have hll := Lib.hid (str_size l')
          have h35 : (str l').size ≤ 35 := by rw [str_size]; omega
          have hsl : bs (str l') = l' := bs_str l'
          generalize hS : str l' = S at *
          have hnS : ∀ w, Calls Tryd.prog 19 #[.string S] w fun e w' => e = .returned (.tuple #[.int .i64 ((if 15 < l'.length then ((0, 5) : Nat × Int) else (m, 0)).1 : Int), errV (if 15 < l'.length then ((0, 5) : Nat × Int) else (m, 0)).2]) ∧ w' = w := by
            intro w
            have := number_any S w (by unfold maxLen; omega)
            rw [hsl, hnum.out] at this; exact this
          have hoth := Lib.hid (fun w => number_any s w hs)
          have hsS : S.size = l'.length := hll.out
          clear hnum hsl hS hll
          rcases Nat.lt_or_ge 15 l'.length with h15 | h15
          focus
            rw [if_pos h15] at hnS
            have hN : ∀ w, Calls Tryd.prog 19 #[.string S] w fun e w' => e = .returned (.tuple #[.int .i64 0, errV 5]) ∧ w' = w := hnS
            clear hnS
            have hI : ∀ w, Calls Tryd.prog 16 #[errV 5, .int .i64 5] w fun e w' => e = .returned (.bool true) ∧ w' = w := fun w => is_any 5 5 w
            have hd1 : decide ((15 : Int) < (S.size : Int)) = true := by rw [decide_eq_true_iff]; omega
            have hd2 : decide ((S.size : Int) ≤ 15) = false := by rw [decide_eq_false_iff_not]; omega
            generalize errV 5 = v at hN hI
            replace hN := Lib.hid hN
            replace hI := Lib.hid hI
            go_wp2_with fail
            refine (hN.out _).mono ?_
            rintro e w3 ⟨rfl, rfl⟩
            go_wp2_with fail
            refine (hI.out _).mono ?_
            rintro e w4 ⟨rfl, rfl⟩
            go_wp2
          rotate_left
          focus
            rw [if_neg (by omega)] at hnS
            have hN : ∀ w, Calls Tryd.prog 19 #[.string S] w fun e w' => e = .returned (.tuple #[.int .i64 (m : Int), .nilIface]) ∧ w' = w := hnS
            clear hnS
            have hd1 : decide ((15 : Int) < (S.size : Int)) = false := by rw [decide_eq_false_iff_not]; omega
            have hd2 : decide ((S.size : Int) ≤ 15) = true := by rw [decide_eq_true_iff]; omega
            replace hN := Lib.hid hN
            go_wp2_with fail
            refine (hN.out _).mono ?_
            rintro e w4 ⟨rfl, rfl⟩
            go_wp2
          all_goals
            go_loop [11, 12, 77] (fun d _ j => ∃ k : Nat, j = .int .i64 (k : Int) ∧ k ≤ s.size ∧ Hid (d = .bool (decide (0 < s.size) && ((bs s).take k).all dig))) (fun _ _ j => s.size - (intOf j).toNat)
            case atStart => exact ⟨0, rfl, by omega, Lib.hid (by congr 1; simp)⟩
            case round =>
              obtain ⟨i, rfl, hi, hd⟩ := hrel
              obtain ⟨b, hb⟩ : ∃ b : Bool, b = (decide (0 < s.size) && ((bs s).take i).all dig) := ⟨_, rfl⟩
              replace hd := hd.out
              rw [← hb] at hd
              subst hd
              by_cases hlt : i < s.size
              · have hnx : (decide (0 < s.size) && ((bs s).take (i + 1)).all dig) = (b && dig s[i]) := by
                  rw [hb, take_at s i hlt, List.all_append, Bool.and_assoc]; simp
                cases b with
                | false =>
                  replace hnx := Lib.hid hnx
                  replace hb := Lib.hid hb
                  go_wp2
                  go_round
                  case rel => exact ⟨i + 1, by go_num, by omega, Lib.hid (by rw [hnx.out]; rfl)⟩
                  case measure => simp [intOf]; omega
                | true =>
                  by_cases h1 : s[i].toNat < 48
                  · have hdg : dig s[i] = false := by unfold dig; simp; omega
                    replace hnx := Lib.hid hnx
                    replace hb := Lib.hid hb
                    go_wp2
                    go_round
                    case rel => exact ⟨i + 1, by go_num, by omega, Lib.hid (by rw [hnx.out, hdg]; rfl)⟩
                    case measure => simp [intOf]; omega
                  · by_cases h2 : 57 < s[i].toNat
                    · have hdg : dig s[i] = false := by unfold dig; simp; omega
                      have hle : decide ((s[i].toNat : Int) ≤ 57) = false := by rw [decide_eq_false_iff_not]; omega
                      replace hnx := Lib.hid hnx
                      replace hb := Lib.hid hb
                      go_wp2
                      go_round
                      case rel => exact ⟨i + 1, by go_num, by omega, Lib.hid (by rw [hnx.out, hdg]; rfl)⟩
                      case measure => simp [intOf]; omega
                    · have hdg : dig s[i] = true := by unfold dig; simp; omega
                      have hle : decide ((s[i].toNat : Int) ≤ 57) = true := by rw [decide_eq_true_iff]; omega
                      replace hnx := Lib.hid hnx
                      replace hb := Lib.hid hb
                      go_wp2
                      go_round
                      case rel => exact ⟨i + 1, by go_num, by omega, Lib.hid (by rw [hnx.out, hdg]; rfl)⟩
                      case measure => simp [intOf]; omega
              · obtain rfl : i = s.size := by omega
                rw [take_all] at hb
                have hbD : digits (bs s) = b := by
                  rw [hb]; unfold digits
                  rw [Bool.and_comm, show decide (0 < s.size) = !(bs s).isEmpty from by rw [← bs_length]; cases bs s <;> simp]
                have hfin : number (bs s) = if b then (if 15 < (bs s).length then (0, 5) else (valGo 0 (bs s), 0)) else (0, 2) := by unfold number; rw [hbD]
                clear hb hbD
                have hBf := Lib.hid (hb1.out.trans (hB.out.mono hb1.out.size))
                cases b with
                | true =>
                  clear hfin
                  generalize ((number (bs s)).1 : Int) = x1 at hoth
                  generalize errV (number (bs s)).2 = x2 at hoth
                  go_wp2_with fail
                  refine (hoth.out _).mono ?_
                  rintro e w5 ⟨rfl, rfl⟩
                  go_wp2
                  go_ret
                  exact ⟨rfl, hBf.out⟩
                | false =>
                  rw [if_neg (by decide)] at hfin
                  rw [hfin] at hoth
                  have hI2 : ∀ w, Calls Tryd.prog 16 #[errV 2, .int .i64 2] w fun e w' => e = .returned (.bool true) ∧ w' = w := fun w => is_any 2 2 w
                  have hO2 : ∀ w, Calls Tryd.prog 19 #[.string s] w fun e w' => e = .returned (.tuple #[.int .i64 0, errV 2]) ∧ w' = w := hoth.out
                  clear hoth hfin
                  generalize errV 2 = x2 at hI2 hO2
                  replace hI2 := Lib.hid hI2
                  replace hO2 := Lib.hid hO2
                  go_wp2_with fail
                  refine (hO2.out _).mono ?_
                  rintro e w5 ⟨rfl, rfl⟩
                  go_wp2_with fail
                  refine (hI2.out _).mono ?_
                  rintro e w6 ⟨rfl, rfl⟩
                  go_wp2
                  go_ret
                  exact ⟨rfl, hBf.out⟩
end Go.Proofs.YtjcgognngeagiaaDoor
