/-
  The walk of RingOwners.
-/
import Derived.Test.YtjjbeahdoblacaaRgMadeW
import Derived.Test.YtjjbeahdoblacaaRgAwake
import Derived.Test.YtjjbeahdoblacaaRgOwnsP
import Derived.Test.YtjjbeahdoblacaaRgTwo
import Derived.IntWalk
import Derived.Deep.RegionHeld3
namespace Go.Proofs.Ytjjbeahdoblacaa
open Go.Shelf Go.RowKit Go.Lib Go.Sort Rg
set_option maxRecDepth 100000 in
set_option maxHeartbeats 16000000 in
theorem ringowners_walk (w : World) (v : Value) (l : List (Nat × Nat)) (key : Nm) (n : Int) (hn : n ≤ 9223372036854775807) (hb : ∀ x ∈ l, x.1 < 256 ∧ x.2 < 256) (hR : Rd w 2 v l.length (pls l)) (hlm : l.length ≤ maxLen) (hkm : key.length ≤ maxLen) :
    Calls Try.prog 3 #[v, .string (str key), .int .i64 n] w fun e w' => e = .returned (.bool true) ∧ Below w.heap.size w w' := by
  unfold maxLen at hlm hkm
  have hkz : (str key).size = key.length := str_size key
  have hAw := Lib.hid (fun w => awake_any w)
  obtain ⟨A, cap, rfl, hcap, -, -⟩ := id hR
  by_cases hl : l.length ≤ 20 ∧ key.length ≤ 500
  · obtain ⟨hl, hk⟩ := hl
    have hkn : ¬ 500 < (str key).size := by omega
    have hln : ¬ 20 < l.length := by omega
    have hgd := mkL_good l
    have hll := mkL_len l
    have hnmo := fun x (hx : x ∈ mkL l) => mkL_nm hx
    have hmd := fun w' (hb' : Below w.heap.size w w') => made_any w' (.slice A l.length cap) l hl hb (hR.below hb')
    have Hmd := Lib.hid hmd
    have Hkz := Lib.hid hkz
    clear hmd hkz hR hb
    generalize mkL l = L at *
    have hnf := Lib.hid (nmF_all hgd hnmo)
    have hn5 := Lib.hid (fun (y : Nd) (hy : y ∈ L) => (show y.1.length ≤ 100000 by obtain ⟨t, e⟩ := hnmo y hy; rw [e]; exact (by decide : 5 ≤ 100000)))
    have Hgd := Lib.hid hgd
    clear hgd hnmo
    go_enter Try.func3, Try.ntmps3
    go_wp2_with fail
    refine (hAw.out _).mono ?_
    rintro e w1 ⟨rfl, hb1⟩
    have hmd1 := Hmd.out _ hb1
    have hB1 := Lib.hid hb1
    clear hb1
    go_wp2_with fail
    refine hmd1.mono ?_
    rintro e w2 ⟨loc, lv, v1, v2, rfl, hM⟩
    have href := owners_ref w2 lv L key (Rd.own hM.list) Hgd.out hn5.out (by omega) (by unfold maxLen; omega)
    have hB2 := Lib.hid (Below.next hB1.out hB1.out.size hM.old)
    have HM := Lib.hid hM
    obtain ⟨AL, cL, rfl, hcL, -, -⟩ := Rd.own hM.list
    clear hmd1 Hmd hM hn5
    go_wp2_with fail
    refine href.mono ?_
    rintro e w3 ⟨o1, rfl, ho1, hb3⟩
    have hon := (HM.out.below hb3).owners Hgd.out (by omega) key (by omega) n hn
    have hO1 := Lib.hid (Rd.own ho1)
    have hB3 := Lib.hid hb3
    obtain ⟨A3, c3, rfl, hc3, -, -⟩ := Rd.own ho1
    clear ho1 hb3 href
    go_wp2_with fail
    refine hon.mono ?_
    rintro e w4 ⟨o2, rfl, ho2, hb4⟩
    have hB4 := Lib.hid (Below.next hB3.out hB3.out.size hb4)
    have hO1' := Lib.hid (hO1.out.below hb4)
    have how := owner_yes w4 w1.heap.size loc v1 v2 _ _ key (HM.out.below hB4.out).ring (srt_srt _) Hgd.out.sub (by rw [Hgd.out.len]; omega) (by have := Hgd.out.plen; omega) (by omega)
    rw [Hgd.out.owners_eq] at how
    have hol := Hgd.out.own_len (Sk.hash 255 key)
    generalize own (ptsOf L) (Sk.hash 255 key) = O at *
    obtain ⟨kc, hkc⟩ : ∃ kc, min n.toNat L.length = kc := ⟨_, rfl⟩
    have hkl : kc ≤ L.length := by omega
    have htk : O.take n.toNat = O.take kc := by rw [List.take_eq_take_min, hol, hkc]
    have hkt : (O.take kc).length = kc := by rw [List.length_take, hol]; omega
    rw [htk, hkt] at ho2
    have hO2 := Lib.hid (Rd.own ho2)
    obtain ⟨A4, c4, rfl, hc4, -, -⟩ := Rd.own ho2
    have Hkt := Lib.hid hkt
    have Hol := Lib.hid hol
    clear ho2 hb4 hon hO1 htk hkt hol
    rw [show ((1 : Int)).toNat = 1 from rfl] at how
    have hfst : Hid ((O = [] → (O.take 1).headD [] = [] ∧ errV (ownE (O.take 1)) = errV 3) ∧ (∀ x T, O = x :: T → (O.take 1).headD [] = x ∧ errV (ownE (O.take 1)) = .nilIface)) := by
      refine ⟨fun e => ?_, fun x T e => ?_⟩
      · rw [e]; exact ⟨rfl, rfl⟩
      · rw [e]; exact ⟨rfl, rfl⟩
    generalize (O.take 1).headD [] = fst at *
    generalize errV (ownE (O.take 1)) = fe at *
    go_wp2_with fail
    refine how.mono ?_
    rintro e w5 ⟨rfl, hb5⟩
    have hB5 := Lib.hid (Below.next hB4.out hB4.out.size hb5)
    have hO2' := Lib.hid (hO2.out.below hb5)
    have hO1s := Lib.hid (hO1'.out.below hb5)
    have hcl := clip_any w5 n L.length
    rw [hkc] at hcl
    clear hkc how hb5 hO2 hO1'
    go_wp2_with fail
    refine hcl.mono ?_
    rintro e w6 ⟨rfl, rfl⟩
    have hT := texts_any (l1 := O.take kc) (l2 := O.take kc) w6 (v1 := .slice A4 kc c4) (v2 := .slice A3 kc c3) (by rw [Hkt.out]; exact hO2'.out) (rd_take (by rw [Hol.out]; exact hO1s.out) (by rw [Hol.out]; exact hkl)) (by rw [Hkt.out]; unfold maxLen; omega)
    simp only [decide_true] at hT
    clear hcl hO2'
    have k1 : (0 : Int) ≤ (kc : Int) := by omega
    have k2 : (kc : Int) ≤ (L.length : Int) := by omega
    have k3 : (kc : Int) ≤ (c3 : Int) := by omega
    go_wp2_with fail
    refine hT.mono ?_
    rintro e w7 ⟨rfl, q7, hw7⟩
    have hB7 := Lib.hid (show Below w2.heap.size w2 w7 by rw [hw7]; exact below_drewN hB5.out _)
    have hO1t := Lib.hid (show Rd w7 1 (.slice A3 L.length c3) L.length (strs O) by rw [hw7]; exact hO1s.out)
    clear hw7 hT k1 k2 k3 hO1s
    go_wp2_with fail
    go_loopw [14, 63] (fun o i wr => ∃ k : Nat, i = .int .u8 (k : Int) ∧ k ≤ 16 ∧ Hid (Below w7.heap.size w7 wr) ∧ Hid (Own wr w7.heap.size 9 1 o (nmF (L.map (·.1)) k).length (strs (nmF (L.map (·.1)) k)))) (fun _ i _ => 16 - (intOf i).toNat)
    case atStart => exact ⟨0, rfl, by omega, Below.refl _ _, own_nil _ _ _ _⟩
    case round =>
      obtain ⟨k, rfl, hk16, hBk, hF⟩ := hrel
      obtain ⟨wo, rfl⟩ : ∃ wo, wo = wr := ⟨_, rfl⟩
      by_cases hlt : k < 16
      · have g0 : (k : Int) < 16 := by omega
        have hns := Lib.hid (nmF_succ (L.map (·.1)) k)
        have hFl : (nmF (L.map (·.1)) k).length ≤ 20 := by
          have := nodup_le (asc_nodup (nmF_asc Hgd.out.nd hk16)) (fun x hx => (show x ∈ L.map (·.1) from (nmF_mem.1 hx).choose_spec.2.1))
          rw [List.length_map] at this; omega
        generalize nmF (L.map (·.1)) k = F at *
        have hwu : IntKind.u8.wrap ((k : Int) + 1) = ((k + 1 : Nat) : Int) := by simp [IntKind.wrap, IntKind.bits, IntKind.signed]; omega
        go_wp2_with fail
        go_loopw [14, 68] (fun o i wi => ∃ j : Nat, i = .int .i64 (j : Int) ∧ j ≤ L.length ∧ Hid (Below w7.heap.size w7 wi) ∧ Hid (∃ G, G = F ++ ((L.map (·.1)).take j).filter (fun y => decide (y = nmOf k)) ∧ Own wi w7.heap.size 9 1 o G.length (strs G))) (fun _ i _ => L.length - (intOf i).toNat)
        case atStart => exact ⟨0, rfl, by omega, hBk.out, F, by simp, hF.out⟩
        case round =>
          obtain ⟨j, rfl, hj, hBj, hG⟩ := hrel
          obtain ⟨G, hGe, hG⟩ := hG.out
          have HG := Lib.hid hG
          by_cases hlt2 : j < L.length
          · have hMr := (HM.out.below (Below.next hB7.out hB7.out.size hBj.out)).list
            obtain ⟨g6, c6, he⟩ := own_some hMr (by omega)
            cases he
            have d1 : wr.cell? ⟨g6, j * 2, none⟩ = some (.string (str L[j].1)) := own_at hMr (two_at0 _ _ hlt2)
            have d2 : wr.cell? ⟨g6, j * 2 + 1, none⟩ = some (.int .i64 (L[j].2 : Int)) := own_at hMr (two_at1 _ _ hlt2)
            have hlm2 : j < (L.map (·.1)).length := by rw [List.length_map]; exact hlt2
            have htf := take_filter_is (x := nmOf k) hlm2
            rw [List.getElem_map] at htf
            have hGl : G.length ≤ 100 := by
              rw [hGe, List.length_append]
              have := List.length_filter_le (fun y => decide (y = nmOf k)) ((L.map (·.1)).take j)
              rw [List.length_take] at this
              omega
            have hGn : Hid (F ++ ((L.map (·.1)).take (j + 1)).filter (fun y => decide (y = nmOf k)) = G ++ if L[j].1 = nmOf k then [L[j].1] else []) := by
              show _ = _
              rw [htf, hGe, List.append_assoc]
            generalize L[j] = y at *
            obtain ⟨yn, yw⟩ := y
            simp only at d1 d2 hGn
            have hkY := blk_new wr 39 #[.string (str yn), .int .i64 (yw : Int)]
            have hbw : Below wr.heap.size wr (wr.alloc (.cells #[.string (str yn), .int .i64 (yw : Int)] 39)) := (Below.refl _ wr).alloc (Nat.le_refl _) _
            have hB3' := Lib.hid (Below.next hBj.out hBj.out.size hbw)
            have hG3 := Lib.hid (own_below HG.out hbw)
            clear hMr hlm2 htf hGe hG HG
            go_upto_region 16 with fail
            generalize wr.alloc (.cells #[.string (str yn), .int .i64 (yw : Int)] 39) = W3 at *
            generalize wr.heap.size = Y at *
            clear d1 d2 hbw
            have y0 : W3.cell? ⟨Y, 0, none⟩ = some (.string (str yn)) := hkY.cell 0
            have hYs := hkY.lt
            have hN := Lib.hid (fun w => name_any k (by omega) w)
            have hcY := Lib.hid (fun (w' : World) (hb : Below W3.heap.size W3 w') => (show w'.cell? ⟨Y, 0, none⟩ = some (.string (str yn)) from (hkY.below hb).cell 0))
            have HkY := Lib.hid hkY
            clear hkY
            by_cases hyn : yn = nmOf k
            · rw [if_pos hyn] at hGn
              have q1 := str_eq hyn
              clear hyn
              go_region_held3 (fun w' => w'.cell? ⟨Y, 0, none⟩ = some (.string (str yn))) (first | exact hcY.out _ (by assumption) | go_keep)
                ((go_at_call 17; refine (hN.out _).mono ?_; rintro e w4 ⟨rfl, hb4⟩; (first | have hb5 := below_of_drew hb4 | have hb5 := hb4)))
              all_goals
                rename_i hHeld
                clear hHeld
                have hBn := Lib.hid (Below.next hB3'.out hB3'.out.size hb5)
                have hGf := Lib.hid (own_below hG3.out hb5)
                have hBz := hBn.out.size
                have y1 : w4.cell? ⟨Y, 0, none⟩ = some (.string (str yn)) := hcY.out _ hb5
                clear hb4 hb5
                go_wp2_with (at_builtin; refine push_str _ _ rfl rfl rfl hGf.out rfl rfl (by omega) hBz ?_; intro v8 w8 ho8 hb8; replace ho8 := Lib.hid ho8; have hB8 := Lib.hid (hBn.out.trans hb8); clear hb8)
                go_roundw
                case rel => exact ⟨j + 1, by go_num, by omega, hB8.out, Lib.hid ⟨G ++ [yn], hGn.out.symm, by rw [strs_snoc, List.length_append, List.length_singleton]; exact ho8.out⟩⟩
                case measure => simp [intOf]; omega
            · rw [if_neg hyn, List.append_nil] at hGn
              have q1 := str_ne hyn
              clear hyn
              go_region_held3 (fun w' => w'.cell? ⟨Y, 0, none⟩ = some (.string (str yn))) (first | exact hcY.out _ (by assumption) | go_keep)
                ((go_at_call 17; refine (hN.out _).mono ?_; rintro e w4 ⟨rfl, hb4⟩; (first | have hb5 := below_of_drew hb4 | have hb5 := hb4)))
              all_goals
                rename_i hHeld
                clear hHeld
                have hBn := Lib.hid (Below.next hB3'.out hB3'.out.size hb5)
                have hGf := Lib.hid (own_below hG3.out hb5)
                go_wp2
                go_roundw
                case rel => exact ⟨j + 1, by go_num, by omega, hBn.out, Lib.hid ⟨G, hGn.out.symm, hGf.out⟩⟩
                case measure => simp [intOf]; omega
          · have hje : j = L.length := by omega
            have hGf : Hid (Own wr w7.heap.size 9 1 u14 (nmF (L.map (·.1)) (k + 1)).length (strs (nmF (L.map (·.1)) (k + 1)))) := by
              show Own _ _ _ _ _ _ _
              rw [hns.out]
              rw [hje, List.take_of_length_le (by rw [List.length_map]; exact Nat.le_refl _)] at hGe
              rw [← hGe]; exact HG.out
            clear hGe hG HG
            go_wp2_with fail
            go_roundw
            case rel => exact ⟨k + 1, by first | exact congrArg _ hwu | rfl | go_num, by omega, hBj.out, hGf.out⟩
            case measure => simp [intOf]; omega
      · obtain rfl : k = 16 := by omega
        have hFo := hF.out
        rw [hnf.out] at hFo
        have hB8 := Lib.hid (Below.next hB7.out hB7.out.size hBk.out)
        have hnd := nodes_yes wo w1.heap.size loc v1 v2 _ _ (HM.out.below hB8.out).ring (by rw [Hgd.out.len]; omega)
        have hnl : (ascOf L).length = L.length := Hgd.out.len
        have HFr := Lib.hid (Rd.own hFo)
        obtain ⟨A8, c8, rfl, hc8, -, -⟩ := Rd.own hFo
        have hO1u := Lib.hid (hO1t.out.below hBk.out)
        have hal : (ascOf L).length ≤ 20 := by omega
        clear hF hnf hnl hFo hO1t
        generalize ascOf L = N at *
        go_wp2_with fail
        refine hnd.mono ?_
        rintro e w9 ⟨o9, rfl, ho9, hb9⟩
        have hB9 := Lib.hid (Below.next hB8.out hB8.out.size hb9)
        have HF9 := Lib.hid (HFr.out.below hb9)
        have HN9 := Lib.hid (Rd.own ho9)
        have hO1v := Lib.hid (hO1u.out.below hb9)
        obtain ⟨A9, c9, rfl, hc9, -, -⟩ := Rd.own ho9
        have hT := texts_any (l1 := N) (l2 := N) w9 HN9.out HF9.out (by unfold maxLen; omega)
        simp only [decide_true] at hT
        clear ho9 hb9 hnd HFr hO1u
        go_wp2_with fail
        refine hT.mono ?_
        rintro e w10 ⟨rfl, q10, hw10⟩
        have hB10 := Lib.hid (Below.next hB2.out hB2.out.size (show Below w2.heap.size w2 w10 by rw [hw10]; exact below_drewN hB9.out _))
        have hO1x := show Rd w10 1 (.slice A3 L.length c3) L.length (strs O) by rw [hw10]; exact hO1v.out
        clear hw10 hT
        have hfs := hfst.out
        have hOl := Hol.out
        clear hfst
        cases O with
        | nil =>
          obtain ⟨rfl, rfl⟩ := hfs.1 rfl
          have hL0 : L.length = 0 := hOl.symm
          have his : Calls Try.prog 19 #[errV 3, .int .i64 3] w10 fun e w' => e = .returned (.bool true) ∧ w' = w10 := is_any 3 3 w10
          have g1 : ((str []).toList == ([] : List UInt8)) = true := by rw [str_toList]; rfl
          obtain rfl : L = [] := List.eq_nil_of_length_eq_zero hL0
          clear hfs hOl hL0
          go_wp2_with fail
          refine his.mono ?_
          rintro e w11 ⟨rfl, rfl⟩
          go_wp2_with fail
          go_ret
          exact ⟨rfl, hB10.out⟩
        | cons x T =>
          obtain ⟨rfl, rfl⟩ := hfs.2 x T rfl
          have hLp : 0 < L.length := by rw [← hOl]; exact Nat.succ_pos _
          have g1 : ((L.length : Int) == 0) = false := beq_eq_false_iff_ne.2 (by omega)
          have g2 : ¬ L.length = 0 := by omega
          obtain ⟨Ax, cx, he, -, -, hx⟩ := hO1x
          cases he
          obtain ⟨b1, of1, rfl, _, hx1⟩ := hx hLp
          have d1 : w10.cell? ⟨b1, of1 + 0, none⟩ = some (.string (str fst)) := hx1 0 _ rfl
          rw [Nat.add_zero] at d1
          have g3 : (0 : Int) < (L.length : Int) := by omega
          have g4 : ((str fst).toList == (str fst).toList) = true := str_eq rfl
          clear hfs hOl hx hx1
          go_wp2_with fail
          go_ret
          exact ⟨rfl, hB10.out⟩
  · go_enter Try.func3, Try.ntmps3
    go_wp2_with fail
    refine (hAw.out _).mono ?_
    rintro e w1 ⟨rfl, hb1⟩
    have hB1 := Lib.hid hb1
    clear hb1
    go_wp2_with fail
    all_goals
      refine (hAw.out _).mono ?_
      rintro e w2 ⟨rfl, hb2⟩
      have hB2 := Lib.hid hb2
      clear hb2
      go_wp2_with fail
      go_ret
      exact ⟨rfl, Below.next hB1.out hB1.out.size hB2.out⟩
end Go.Proofs.Ytjjbeahdoblacaa
