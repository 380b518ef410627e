/-
  The walk of RingCounts.
-/
import Derived.Test.YtjjbeahdoblacaaRgMadeW
import Derived.Test.YtjjbeahdoblacaaRgAwake
import Derived.Test.YtjjbeahdoblacaaRgUse
import Derived.IntWalk
namespace Go.Proofs.Ytjjbeahdoblacaa
open Go.Shelf Go.RowKit Go.Lib Go.Sort Rg
set_option maxRecDepth 100000 in
set_option maxHeartbeats 16000000 in
theorem counts_walk (w : World) (v : Value) (l : List (Nat × Nat)) (key : Nm) (n : Nat) (hn : n < 256) (hb : ∀ x ∈ l, x.1 < 256 ∧ x.2 < 256) (hR : Rd w 2 v l.length (pls l)) (hlm : l.length ≤ maxLen) (hkm : key.length ≤ maxLen) :
    Calls Try.prog 5 #[v, .string (str key), .int .u8 (n : Int)] w fun e w' => e = .returned (.bool true) ∧ Below w.heap.size w w' := by
  unfold maxLen at hlm hkm
  have hkz : (str key).size = key.length := str_size key
  have hAw := Lib.hid (fun w => awake_any w)
  obtain ⟨A, cap, rfl, hcap, -, -⟩ := id hR
  by_cases hl : l.length ≤ 20 ∧ key.length ≤ 500
  · obtain ⟨hl, hk⟩ := hl
    have hkn : ¬ 500 < (str key).size := by omega
    have hln : ¬ 20 < l.length := by omega
    have hgd := mkL_good l
    have hll := mkL_len l
    have hmd := fun w' (hb' : Below w.heap.size w w') => made_any w' (.slice A l.length cap) l hl hb (hR.below hb')
    have Hmd := Lib.hid hmd
    have HR := Lib.hid hR
    have Hkz := Lib.hid hkz
    clear hmd hkz hR hb
    generalize mkL l = L at *
    have Hgd := Lib.hid hgd
    clear hgd
    go_enter Try.func5, Try.ntmps5
    go_wp2_with fail
    refine (hAw.out _).mono ?_
    rintro e w1 ⟨rfl, hb1⟩
    have hmd1 := Hmd.out _ hb1
    have hB1 := Lib.hid hb1
    clear hb1
    go_wp2_with fail
    refine hmd1.mono ?_
    rintro e w2 ⟨loc, lv, v1, v2, rfl, hM2⟩
    have hon := hM2.owners Hgd.out (by omega) key (by omega) 1000 (by omega)
    rw [List.take_of_length_le (by rw [Hgd.out.own_len]; omega)] at hon
    have hM := Lib.hid hM2
    obtain ⟨AL, cL, rfl, hcL, -, -⟩ := Rd.own hM2.list
    have hoL : (own (ptsOf L) (Sk.hash 255 key)).length = L.length := Hgd.out.own_len _
    have hnd := Lib.hid (own_nodup (ptsOf L) (Sk.hash 255 key))
    have hown2 := Lib.hid (fun (w' : World) (hb : Below w2.heap.size w2 w') (m : Int) (hm : m ≤ 9223372036854775807) => (hM2.below hb).owners Hgd.out (by omega) key (by omega) m hm)
    have hB2 := Lib.hid (Below.next hB1.out hB1.out.size hM2.old)
    clear hM2 hmd1 Hmd
    generalize own (ptsOf L) (Sk.hash 255 key) = O at *
    have HoL := Lib.hid hoL
    go_wp2_with fail
    refine hon.mono ?_
    rintro e w3 ⟨o1, rfl, ho1, hb3⟩
    rw [hoL] at ho1
    obtain ⟨A3, c3, rfl, hc3, -, -⟩ := Rd.own ho1
    have hR3 := Rd.own ho1
    rw [← hoL] at hR3
    have HR3 := Lib.hid hR3
    have hB3 := Lib.hid hb3
    clear ho1 hb3 hon hR3 hoL
    have hon2 := hown2.out w3 hB3.out ((n : Int) % 20) (by omega)
    have wa : IntKind.i64.wrap ((n : Int).tmod 20) = (n : Int) % 20 := by rw [Int.tmod_eq_emod_of_nonneg (by omega)]; exact IntWalk.i64_in _ (by omega)
    have wb : IntKind.u8.wrap ((n : Int).tmod 20) = (n : Int) % 20 := by rw [Int.tmod_eq_emod_of_nonneg (by omega)]; simp [IntKind.wrap, IntKind.bits, IntKind.signed]; omega
    have wc : IntKind.i64.wrap ((n : Int) % 20) = (n : Int) % 20 := IntWalk.i64_in _ (by omega)
    rw [show ((n : Int) % 20).toNat = n % 20 by omega] at hon2
    go_wp2_with fail
    refine hon2.mono ?_
    rintro e w4 ⟨o2, rfl, ho2, hb4⟩
    have hRs := Rd.own ho2
    have HRs := Lib.hid hRs
    have hB4 := Lib.hid (Below.next hB3.out hB3.out.size hb4)
    have hR4 := HR3.out.below hb4
    have HR4 := Lib.hid hR4
    obtain ⟨A5, c5, rfl, hc5, -, -⟩ := Rd.own ho2
    clear ho2 hb4 hon2 hRs hR4 HR3
    go_wp2_with fail
    go_loopw [46] (fun i wr => ∃ k : Nat, i = .int .i64 (k : Int) ∧ k ≤ L.length ∧ Hid (∃ q, wr = w4.drewN q)) (fun i _ => L.length - (intOf i).toNat)
    case atStart => exact ⟨0, rfl, by omega, 0, rfl⟩
    case round =>
      obtain ⟨k, rfl, hk2, hq⟩ := hrel
      obtain ⟨q1, hw⟩ := hq.out
      have hRw : Hid (Rd wr 1 (.slice A3 L.length c3) L.length (strs O)) := by
        show Rd _ _ _ _ _
        rw [hw, ← HoL.out]; have := HR4.out; rw [HoL.out] at this ⊢; exact this
      have Hw := Lib.hid hw
      clear hw hq
      by_cases hlt : k < L.length
      · go_wp2_with fail
        go_loopw [50] (fun i wi => ∃ j : Nat, i = .int .i64 (j : Int) ∧ j ≤ k ∧ Hid (∃ q, wi = wr.drewN q)) (fun i _ => k - (intOf i).toNat)
        case atStart => exact ⟨0, rfl, by omega, 0, rfl⟩
        case round =>
          obtain ⟨j, rfl, hj, hq⟩ := hrel
          obtain ⟨q2, hw⟩ := hq.out
          by_cases hlt2 : j < k
          · obtain ⟨Ax, cx, he, -, -, hx⟩ := hRw.out
            cases he
            obtain ⟨b1, of1, rfl, _, hx1⟩ := hx (by omega)
            have hOl : O.length = L.length := HoL.out
            have d1 : wr.cell? ⟨b1, of1 + k, none⟩ = some (.string (str (O[k]'(by omega)))) := by rw [hw]; exact hx1 k _ (strs_at (by omega))
            have d2 : wr.cell? ⟨b1, of1 + j, none⟩ = some (.string (str (O[j]'(by omega)))) := by rw [hw]; exact hx1 j _ (strs_at (by omega))
            have hne : ((str (O[k]'(by omega))).toList == (str (O[j]'(by omega))).toList) = false := str_ne (fun e => (List.pairwise_iff_getElem.1 hnd.out) j k (by omega) (by omega) hlt2 e.symm)
            generalize (O[k]'(by omega)) = ok at d1 hne
            generalize (O[j]'(by omega)) = oj at d2 hne
            have k1 : (0 : Int) ≤ (k : Int) := by omega
            have k2 : (k : Int) < (L.length : Int) := by omega
            have j1 : (0 : Int) ≤ (j : Int) := by omega
            have j2 : (j : Int) < (L.length : Int) := by omega
            have Hw2 := Lib.hid hw
            have HoL2 := Lib.hid hOl
            clear hw hq hx hx1 hOl
            go_wp2_with fail
            go_quiet (fail)
            go_wp2
            go_roundw
            case rel => exact ⟨j + 1, by go_num, by omega, q2 + nq, by rw [Hw2.out, World.drewN_drewN]⟩
            case measure => simp [intOf]; omega
          · have Hw2 := Lib.hid hw
            clear hw hq
            go_wp2
            go_roundw
            case rel => exact ⟨k + 1, by go_num, by omega, q1 + q2, by rw [Hw2.out, Hw.out, World.drewN_drewN]⟩
            case measure => simp [intOf]; omega
      · have hkL : k = L.length := by omega
        subst hkL
        have hRw2 := hRw.out
        rw [← HoL.out] at hRw2
        have hRt := rd_take (n := min (n % 20) O.length) hRw2 (by omega)
        rw [← List.take_eq_take_min] at hRt
        have hw1 := Hw.out
        have hRss : Rd wr 1 (.slice A5 (O.take (n % 20)).length c5) (O.take (n % 20)).length (strs (O.take (n % 20))) := by
          rw [hw1]; exact HRs.out
        have HRt := Lib.hid hRt
        have HRss := Lib.hid hRss
        have e1 : (min ((n : Int) % 20) (L.length : Int)).toNat = min (n % 20) O.length := by rw [HoL.out]; omega
        have hT := texts_any wr hRss hRt (by rw [List.length_take, HoL.out]; unfold maxLen; omega)
        simp only [List.length_take] at hT
        clear hRt hRss hRw2 hw1
        go_wp2_with fail
        refine hT.mono ?_
        rintro e w5 ⟨rfl, q5, hw5⟩
        have hb5 : Below w2.heap.size w2 w5 := by rw [hw5, Hw.out]; exact below_drewN (below_drewN hB4.out _) _
        have HB5 := Lib.hid (Below.next hB2.out hB2.out.size hb5)
        have hon3 := hown2.out w5 hb5 (-1) (by omega)
        clear hw5 hb5
        rw [show (-1 : Int).toNat = 0 from rfl, List.take_zero] at hon3
        simp only [decide_true]
        go_wp2_with fail
        refine hon3.mono ?_
        rintro e w6 ⟨o6, rfl, ho6, hb6⟩
        obtain ⟨A6, c6, rfl, hc6, -, -⟩ := Rd.own ho6
        clear ho6
        go_wp2_with fail
        go_ret
        exact ⟨rfl, Below.next HB5.out HB5.out.size hb6⟩
  · have hlx : (if l.length > 20 ∨ key.length > 500 then true else false) = true := by simp; omega
    go_enter Try.func5, Try.ntmps5
    go_wp2_with fail
    refine (hAw.out _).mono ?_
    rintro e w1 ⟨rfl, hb1⟩
    have hB1 := Lib.hid hb1
    clear hb1
    go_wp2_with fail
    all_goals
      refine (hAw.out _).mono ?_
      rintro e w2 ⟨rfl, hb2⟩
      have hB2 := Lib.hid hb2
      clear hb2
      go_wp2_with fail
      go_ret
      exact ⟨rfl, Below.next hB1.out hB1.out.size hB2.out⟩
end Go.Proofs.Ytjjbeahdoblacaa
