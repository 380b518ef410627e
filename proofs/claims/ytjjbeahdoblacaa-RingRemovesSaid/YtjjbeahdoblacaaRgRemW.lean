/-
  The walk of RingRemoves.
-/
import Derived.Test.YtjjbeahdoblacaaRgAddsW
import Derived.Test.YtjjbeahdoblacaaRgRows
import Derived.Test.YtjjbeahdoblacaaRgRem
namespace Go.Proofs.Ytjjbeahdoblacaa
open Go.Shelf Go.RowKit Go.Lib Go.Sort Rg
set_option maxHeartbeats 4000000 in
theorem removes_out (w : World) (A AK : Option Addr) (n m cap capK at' : Nat) (h : 20 < n ∨ n = 0 ∨ (n ≤ 20 ∧ 0 < n ∧ 20 < m)) :
    Calls Try.prog 7 #[.slice A n cap, .int .u8 (at' : Int), .slice AK m capK] w fun e w' => e = .returned (.bool true) ∧ Below w.heap.size w w' := by
  have hAw := Lib.hid (fun w => awake_any w)
  rcases h with h | rfl | ⟨h1, h2, h3⟩
  · have h2 : ((n : Int) == 0) = false := beq_eq_false_iff_ne.2 (by omega)
    have h3 : (20 : Int) < (n : Int) := by omega
    go_enter Try.func7, Try.ntmps7
    go_wp2_with fail
    refine (hAw.out _).mono ?_
    rintro e w1 ⟨rfl, hb1⟩
    have hB1 := Lib.hid hb1
    clear hb1
    go_wp2_with fail
    refine (hAw.out _).mono ?_
    rintro e w2 ⟨rfl, hb2⟩
    have hB2 := Lib.hid hb2
    clear hb2
    go_wp2_with fail
    go_ret
    exact ⟨rfl, Below.next hB1.out hB1.out.size hB2.out⟩
  · go_enter Try.func7, Try.ntmps7
    go_wp2_with fail
    refine (hAw.out _).mono ?_
    rintro e w1 ⟨rfl, hb1⟩
    have hB1 := Lib.hid hb1
    clear hb1
    go_wp2_with fail
    refine (hAw.out _).mono ?_
    rintro e w2 ⟨rfl, hb2⟩
    have hB2 := Lib.hid hb2
    clear hb2
    go_wp2_with fail
    go_ret
    exact ⟨rfl, Below.next hB1.out hB1.out.size hB2.out⟩
  · have h4 : ((n : Int) == 0) = false := beq_eq_false_iff_ne.2 (by omega)
    have h5 : ¬ (20 : Int) < (n : Int) := by omega
    have h6 : (20 : Int) < (m : Int) := by omega
    go_enter Try.func7, Try.ntmps7
    go_wp2_with fail
    refine (hAw.out _).mono ?_
    rintro e w1 ⟨rfl, hb1⟩
    have hB1 := Lib.hid hb1
    clear hb1
    go_wp2_with fail
    refine (hAw.out _).mono ?_
    rintro e w2 ⟨rfl, hb2⟩
    have hB2 := Lib.hid hb2
    clear hb2
    go_wp2_with fail
    go_ret
    exact ⟨rfl, Below.next hB1.out hB1.out.size hB2.out⟩
set_option maxRecDepth 100000 in
set_option maxHeartbeats 16000000 in
theorem removes_walk (w : World) (v : Value) (l : List (Nat × Nat)) (at' : Nat) (kv : Value) (keys : List Nm) (hW : at' < 256) (hb : ∀ x ∈ l, x.1 < 256 ∧ x.2 < 256) (hR : Rd w 2 v l.length (pls l)) (hlm : l.length ≤ maxLen) (hK : Rd w 1 kv keys.length (strs keys)) (hkm : keys.length ≤ maxLen) (hks : ∀ x ∈ keys, x.length ≤ maxLen) :
    Calls Try.prog 7 #[v, .int .u8 (at' : Int), kv] w fun e w' => e = .returned (.bool true) ∧ Below w.heap.size w w' := by
  unfold maxLen at hlm hkm hks
  have hAw := Lib.hid (fun w => awake_any w)
  obtain ⟨A, cap, rfl, hcap, -, -⟩ := id hR
  obtain ⟨AK, capK, rfl, hcapK, -, -⟩ := id hK
  by_cases hl : (l.length ≤ 20 ∧ 0 < l.length) ∧ keys.length ≤ 20
  · obtain ⟨⟨hl, hl0⟩, hk⟩ := hl
    have hkn : ¬ 20 < keys.length := by omega
    have hln : ¬ 20 < l.length := by omega
    have hlz : ((l.length : Int) == 0) = false := beq_eq_false_iff_ne.2 (by omega)
    have hlz2 : ¬ l.length = 0 := by omega
    have hgd := mkL_good l
    have hll := mkL_len l
    have hlp := mkL_pos hl0
    have hmd := fun w' (hb' : Below w.heap.size w w') => made_any w' (.slice A l.length cap) l hl hb (hR.below hb')
    have Hmd := Lib.hid hmd
    have HK := Lib.hid hK
    have Hks := Lib.hid hks
    clear hmd hR hb hK hks
    generalize mkL l = L at *
    have Hgd := Lib.hid hgd
    clear hgd
    go_enter Try.func7, Try.ntmps7
    go_wp2_with fail
    refine (hAw.out _).mono ?_
    rintro e w1 ⟨rfl, hb1⟩
    have hmd1 := Hmd.out _ hb1
    have hB1 := Lib.hid hb1
    clear hb1
    go_wp2_with fail
    refine hmd1.mono ?_
    rintro e w2 ⟨loc, lv, v1, v2, rfl, hM⟩
    have hB2 := Lib.hid (Below.next hB1.out hB1.out.size hM.old)
    obtain ⟨AL, cL, rfl⟩ := own_some hM.list hlp
    obtain ⟨kx, hkx⟩ : ∃ kx, at' % L.length = kx := ⟨_, rfl⟩
    have hkL : kx < L.length := by rw [← hkx]; exact Nat.mod_lt _ hlp
    have e0 : w2.cell? ⟨AL, kx * 2, none⟩ = some (.string (str L[kx].1)) := own_at hM.list (two_at0 _ _ hkL)
    have hyL : L[kx] ∈ L := List.getElem_mem hkL
    have hHs := hM.ring
    have hsz := hM.old.size
    have hF1 : ∀ b, (b = loc ∨ v1.ownBlock = some b ∨ v2.ownBlock = some b) → b < w2.heap.size := by
      rintro b (rfl | h | h)
      · exact hM.ring.blk.lt
      · exact (World.ownsRow.lt hM.ring.nodes b h).2
      · exact (World.ownsRow.lt hM.ring.points b h).2
    have hbs : w.heap.size ≤ w1.heap.size := hB1.out.size
    have HF1 := Lib.hid hF1
    have HM := Lib.hid hM
    clear hmd1 Hmd hM hHs hF1
    generalize hyx : L[kx] = y at *
    obtain ⟨x, nx⟩ := y
    simp only at e0
    have HyL := Lib.hid hyL
    clear hyL hyx
    have ra : IntKind.i64.wrap ((at' : Int)) = (at' : Int) := IntWalk.i64_in _ (by omega)
    have rb : ((at' : Int).tmod (L.length : Int)) = (kx : Int) := by rw [Int.tmod_eq_emod_of_nonneg (by omega), ← hkx]; exact (Int.natCast_emod _ _).symm
    have rc : IntKind.i64.wrap ((at' : Int).tmod (L.length : Int)) = (kx : Int) := by rw [rb]; exact IntWalk.i64_in _ (by omega)
    have rd : ((L.length : Int) == 0) = false := beq_eq_false_iff_ne.2 (by omega)
    have re : ¬ (L.length : Int) = 0 := by omega
    have rf : (0 : Int) ≤ (kx : Int) := by omega
    have rg : (kx : Int) < (L.length : Int) := by omega
    clear hkx
    go_wp2_with fail
    have HK2 := Lib.hid (HK.out.below hB2.out)
    clear ra rb rc rd rf rg e0 re hlz hlz2 hln hl0
    have HN0 := Lib.hid (Rows.nil w2 w2.heap.size (fun key => own (ptsOf L) (Sk.hash 255 key)) L.length)
    go_loopw [11, 56] (fun o i wr => ∃ k : Nat, i = .int .i64 (k : Int) ∧ k ≤ keys.length ∧ Hid (Below w2.heap.size w2 wr) ∧ Hid (Rows wr w2.heap.size o (keys.take k) (fun key => own (ptsOf L) (Sk.hash 255 key)) L.length) ∧ Hid (∀ y ∈ keys.take k, y.length ≤ 500)) (fun _ i _ => keys.length - (intOf i).toNat)
    case atStart => exact ⟨0, rfl, by omega, Below.refl _ _, HN0.out, Lib.hid (by simp)⟩
    case round =>
      clear HN0
      obtain ⟨k, rfl, hk2, hB5, hRo, hsh⟩ := hrel
      by_cases hlt : k < keys.length
      · obtain ⟨Ax, cx, he, -, -, hx⟩ := HK2.out.below hB5.out
        cases he
        obtain ⟨b1, of1, rfl, _, hx1⟩ := hx (by omega)
        have d1 : wr.cell? ⟨b1, of1 + k, none⟩ = some (.string (str (keys[k]'(by omega)))) := hx1 k _ (strs_at (by omega))
        have hkl : (keys[k]'(by omega)).length ≤ 2 ^ 63 - 1 := Hks.out _ (List.getElem_mem _)
        have htk := Lib.hid (List.take_succ_eq_append_getElem hlt)
        generalize (keys[k]'(by omega)) = key at d1 hkl htk
        have hkz : (str key).size = key.length := str_size key
        have k1 : (0 : Int) ≤ (k : Int) := by omega
        have k2 : (k : Int) < (keys.length : Int) := by omega
        clear hx hx1
        by_cases h5 : key.length ≤ 500
        case neg =>
          have h6 : 500 < (str key).size := by omega
          go_wp2_with fail
          go_ret
          exact ⟨rfl, Below.next hB2.out hB2.out.size hB5.out⟩
        have h6 : ¬ 500 < (str key).size := by omega
        have hsh2 : Hid (∀ y ∈ keys.take (k + 1), y.length ≤ 500) := by
          rw [htk.out]
          intro y hy
          rcases List.mem_append.1 hy with hy | hy
          · exact hsh.out y hy
          · rw [List.mem_singleton] at hy; rw [hy]; exact h5
        have hkz' := Lib.hid hkz
        clear hkz hsh
        have hob := Ring2.all (HM.out.below hB5.out).ring Hgd.out (by omega) key (by omega)
        have hz5 := hB5.out.size
        go_wp2_with fail
        refine hob.mono ?_
        rintro e w5 ⟨o1, rfl, ho1, hb5⟩
        have hB6 := Lib.hid (Below.next hB5.out hB5.out.size hb5)
        have hz6 := hB6.out.size
        have hR6 := Lib.hid (hRo.out.below hb5)
        have ho6 := Own.base ho1 hz5
        obtain ⟨A1, c1, rfl, hc1, -, -⟩ := Rd.own ho1
        have Ho6 := Lib.hid ho6
        have htl : (keys.take k).length < 10000000000 := by rw [List.length_take]; omega
        clear ho1 hob hb5 hRo ho6
        go_wp2_with (at_builtin; refine push_row _ _ rfl rfl key rfl hR6.out rfl Ho6.out htl hz6 ?_; intro v3 w3 ho3 hb3; replace ho3 := Lib.hid ho3; have hB3 := Lib.hid (hB6.out.trans hb3); clear hb3)
        go_roundw
        case rel => exact ⟨k + 1, by go_num, by omega, hB3.out, by rw [htk.out]; exact ho3.out, hsh2.out⟩
        case measure => simp [intOf]; omega
      · obtain rfl : k = keys.length := by omega
        have hRl := hRo.out
        have hshl := hsh.out
        rw [List.take_of_length_le (Nat.le_refl _)] at hRl hshl
        have Hsh := Lib.hid hshl
        clear hsh hshl
        have hrm := (HM.out.below hB5.out).ring
        have hz5 := Nat.le_trans hsz hB5.out.size
        have hxL : x ∈ L.map (·.1) := List.mem_map.2 ⟨(x, nx), HyL.out, rfl⟩
        have hrem := rem_yes wr w1.heap.size loc v1 v2 _ _ x hrm Hgd.out.asc (by rw [Hgd.out.len]; omega) (by have := Hgd.out.plen; omega) (Hgd.out.mem.2 hxL) ((Rg.own_mem (h := 0)).1 (Hgd.out.own_mem.2 hxL))
        have e1 : (ascOf L).eraseIdx (pos (ascOf L) x) = ascOf (less L x) := less_names Hgd.out HyL.out
        rw [e1, less_pts Hgd.out] at hrem
        have hll2 := less_len (L := L) x
        have hgd2 := less_good Hgd.out x
        have hnot := less_not (L := L) x
        have hown := Lib.hid (fun h => less_own Hgd.out x h)
        generalize less L x = L2 at *
        have HRem : Hid (Calls Try.prog 23 #[.pointer (some ⟨loc, 0, none⟩), .string (str x)] wr fun e w' => e = .returned (.bool true) ∧ Hid (∃ v1' v2', Ring2 w' w1.heap.size loc v1' v2' (ascOf L2) (ptsOf L2)) ∧ Hid (Rows w' w2.heap.size u11 keys (fun key => own (ptsOf L) (Sk.hash 255 key)) L.length) ∧ Hid (Below w.heap.size w w')) := by
          refine hrem.mono ?_
          rintro e w' ⟨rfl, hk, v1', v2', hr'⟩
          exact ⟨rfl, ⟨v1', v2', hr'⟩, hRl.kp HF1.out hk, (Below.next hB2.out hB2.out.size hB5.out).trans ((hrm.frame hz5 hk).mono hbs)⟩
        have Hgd2 := Lib.hid hgd2
        have Hnot := Lib.hid hnot
        clear hrem e1 hRo hRl hrm hz5 hxL hlt hk2 hgd2 hnot
        go_wp2_with fail
        refine HRem.out.mono ?_
        rintro e w3 ⟨rfl, hr3, hR3, hB3⟩
        clear HRem HM HF1 hsz
        obtain ⟨t1, t2, hr3⟩ := hr3.out
        have hno := rem_no w3 w1.heap.size loc t1 t2 _ _ x hr3 Hgd2.out.asc (by rw [Hgd2.out.len]; omega) (fun h => Hnot.out (Hgd2.out.mem.1 h))
        have HR3 := Lib.hid hr3
        clear hr3
        go_wp2_with fail
        refine hno.mono ?_
        rintro e w4 ⟨rfl, hb4⟩
        have hB4 := Lib.hid (Below.next hB3.out hB3.out.size hb4)
        have HR4 := Lib.hid (HR3.out.below hb4)
        have hRw := hR3.out.below hb4
        have HK4 := Lib.hid (HK.out.below hB4.out)
        obtain ⟨us, hwo, hwu⟩ := hRw
        obtain ⟨AO, cO, rfl, hcO, -, -⟩ := Rd.own hwo
        have HWo := Lib.hid (Rd.own hwo)
        have HWu := Lib.hid hwu
        clear hno hb4 hB3 hR3 hr3 HR3 hwo hwu HK HK2 hB5
        go_wp2_with fail
        go_loopw [81] (fun i wr => ∃ k : Nat, i = .int .i64 (k : Int) ∧ k ≤ keys.length ∧ Hid (Below w4.heap.size w4 wr)) (fun i _ => keys.length - (intOf i).toNat)
        case atStart => exact ⟨0, rfl, by omega, Below.refl _ _⟩
        case round =>
          obtain ⟨k, rfl, hk2, hB5⟩ := hrel
          by_cases hlt : k < keys.length
          · obtain ⟨Ax, cx, he, -, -, hx⟩ := HK4.out.below hB5.out
            cases he
            obtain ⟨b1, of1, rfl, _, hx1⟩ := hx (by omega)
            have d1 : wr.cell? ⟨b1, of1 + k, none⟩ = some (.string (str (keys[k]'(by omega)))) := hx1 k _ (strs_at (by omega))
            have hkl : (keys[k]'(by omega)).length ≤ 2 ^ 63 - 1 := Hks.out _ (List.getElem_mem _)
            obtain ⟨Az, cz, he, -, -, hz⟩ := HWo.out.below hB5.out
            cases he
            obtain ⟨b2, of2, rfl, hb2l, hz1⟩ := hz (by omega)
            obtain ⟨Au, cu, hue, huo⟩ := HWu.out k hlt
            have d2 : wr.cell? ⟨b2, of2 + k, none⟩ = some (.slice Au L.length cu) := hz1 k _ hue
            have hO := Rd.own (own_below huo hB5.out)
            have Hsk := Hsh.out _ (List.getElem_mem hlt)
            generalize (keys[k]'(by omega)) = key at d1 hkl hO Hsk
            have hkz : (str key).size = key.length := str_size key
            have k1 : (0 : Int) ≤ (k : Int) := by omega
            have k2 : (k : Int) < (keys.length : Int) := by omega
            obtain ⟨Aw, cw, he, hcu, -, -⟩ := id hO
            cases he
            have hoo := hown.out (Sk.hash 255 key)
            have hol := Hgd.out.own_len (Sk.hash 255 key)
            have hk5 : key.length ≤ 500 := Hsk
            have HOw := Lib.hid (fun W (h : Below wr.heap.size wr W) => Ring2.all (HR4.out.below (Below.next hB5.out hB5.out.size h)) Hgd2.out (by omega) key (by omega))
            have HO := Lib.hid hO
            clear hx hx1 hz hz1 huo hue hO
            generalize own (ptsOf L) (Sk.hash 255 key) = O at *
            have Hoo := Lib.hid hoo
            have Hol := Lib.hid hol
            clear hoo hol
            obtain ⟨wo, rfl⟩ : ∃ wo, wo = wr := ⟨_, rfl⟩
            go_wp2_with fail
            go_loopw [16, 91] (fun o i wi => ∃ j : Nat, i = .int .i64 (j : Int) ∧ j ≤ L.length ∧ Hid (Below wo.heap.size wo wi) ∧ Hid (Own wi wo.heap.size 9 1 o ((O.take j).filter (fun y => decide (y ≠ x))).length (strs ((O.take j).filter (fun y => decide (y ≠ x)))))) (fun _ i _ => L.length - (intOf i).toNat)
            case atStart => exact ⟨0, rfl, by omega, Below.refl _ _, own_nil _ _ _ _⟩
            case round =>
              obtain ⟨j, rfl, hj, hB8, ho⟩ := hrel
              by_cases hlt2 : j < L.length
              · obtain ⟨Ay, cy, he, -, -, hy⟩ := HO.out.below hB8.out
                cases he
                obtain ⟨b3, of3, rfl, _, hy1⟩ := hy (by omega)
                have hjl : j < O.length := by rw [Hol.out]; exact hlt2
                have d3 : wr.cell? ⟨b3, of3 + j, none⟩ = some (.string (str (O[j]'hjl))) := hy1 j _ (strs_at hjl)
                have htk := take_filter (x := x) hjl
                have j1 : (0 : Int) ≤ (j : Int) := by omega
                have j2 : (j : Int) < (L.length : Int) := by omega
                generalize (O[j]'hjl) = y at d3 htk
                have Htk := Lib.hid htk
                clear hy hy1 htk d1 d2
                by_cases hxn : y = x
                · have e1 : ((str y).toList == (str x).toList) = true := str_eq hxn
                  have htk2 := Htk.out
                  rw [if_pos hxn, List.append_nil] at htk2
                  have HB8 := Lib.hid (below_drewN hB8.out 0)
                  clear hxn Htk
                  have Htk2 := Lib.hid htk2
                  clear htk2
                  go_wp2_with fail
                  go_roundw
                  case rel => exact ⟨j + 1, by go_num, by omega, hB8.out, by rw [Htk2.out]; exact ho.out⟩
                  case measure => simp [intOf]; omega
                · have e1 : ((str y).toList == (str x).toList) = false := str_ne hxn
                  have htk2 := Htk.out
                  rw [if_neg hxn] at htk2
                  have hfl : ((O.take j).filter (fun y => decide (y ≠ x))).length ≤ j := Nat.le_trans (List.length_filter_le _ _) (by rw [List.length_take]; omega)
                  clear hxn Htk
                  have Htk2 := Lib.hid htk2
                  clear htk2
                  have hBw := hB8.out.size
                  generalize ((O.take j).filter (fun y => decide (y ≠ x))) = F at *
                  go_wp2_with (at_builtin; refine push_str _ _ rfl rfl rfl ho.out rfl rfl (by omega) hBw ?_; intro v3 w3 ho3 hb3; replace ho3 := Lib.hid ho3; have hB3 := Lib.hid (hB8.out.trans hb3); clear hb3)
                  go_roundw
                  case rel =>
                    have := ho3.out
                    rw [← strs_snoc, show F.length + 1 = (F ++ [y]).length by simp, ← Htk2.out] at this
                    exact ⟨j + 1, by go_num, by omega, hB3.out, this⟩
                  case measure => simp [intOf]; omega
              · have hjM : j = L.length := by omega
                subst hjM
                have ho' := ho.out
                rw [List.take_of_length_le (by rw [Hol.out]; exact Nat.le_refl _), Hoo.out] at ho'
                have Ho' := Lib.hid (Rd.own ho')
                have hl2 := Hgd2.out.own_len (Sk.hash 255 key)
                have hrel2 := HOw.out _ hB8.out
                have hB9 := Lib.hid (Below.next hB5.out hB5.out.size hB8.out)
                have d4 : wr.cell? ⟨b2, of2 + k, none⟩ = some (.slice Au L.length cu) := by rw [hB8.out.cell (p := ⟨b2, of2 + k, none⟩) hb2l]; exact d2
                obtain ⟨A9, c9, rfl, hc9, -, -⟩ := Rd.own ho'
                clear d1 d2 ho' ho hl2
                go_wp2_with fail
                refine hrel2.mono ?_
                rintro e w7 ⟨o2, rfl, ho2, hb7⟩
                have Ho2 := Lib.hid (Rd.own ho2)
                have Ho3 := Lib.hid (Ho'.out.below hb7)
                obtain ⟨A7, c7, rfl, hc7, -, -⟩ := Rd.own ho2
                have hl2 := Hgd2.out.own_len (Sk.hash 255 key)
                have hB10 := Lib.hid (Below.next hB9.out hB9.out.size hb7)
                have Hl2 := Lib.hid hl2
                clear hl2
                generalize own (ptsOf L2) (Sk.hash 255 key) = O2 at *
                have Hl3 := Lib.hid (show O2.length = O2.length from rfl)
                obtain ⟨m2, hm2⟩ : ∃ m2, L2.length = m2 := ⟨_, rfl⟩
                obtain ⟨m3, hm3⟩ : ∃ m3, O2.length = m3 := ⟨_, rfl⟩
                obtain rfl : m3 = m2 := by have := Hl2.out; omega
                have hT := texts_any (l1 := O2) (l2 := O2) w7 (by rw [Hl2.out]; exact Ho2.out) Ho3.out (by unfold maxLen; rw [Hl2.out]; omega)
                simp only [decide_true] at hT
                clear hm2 hm3 Hl3
                clear ho2 hrel2 hb7 Ho'
                go_wp2_with fail
                refine hT.mono ?_
                rintro e w8 ⟨rfl, q8, hw8⟩
                have hB11 := Lib.hid (show Below w4.heap.size w4 w8 by rw [hw8]; exact below_drewN hB10.out _)
                clear hw8 hT
                go_wp2_with fail
                go_roundw
                case rel => exact ⟨k + 1, by go_num, by omega, hB11.out⟩
                case measure => simp [intOf]; omega
          · go_wp2_with fail
            go_ret
            exact ⟨rfl, Below.next hB4.out hB4.out.size hB5.out⟩
  · refine removes_out w A AK l.length keys.length cap capK at' ?_
    omega
end Go.Proofs.Ytjjbeahdoblacaa
