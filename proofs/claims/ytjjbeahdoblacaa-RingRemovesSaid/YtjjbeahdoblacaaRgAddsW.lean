/-
  The walk of RingAdds.
-/
import Derived.Test.YtjjbeahdoblacaaRgMadeW
import Derived.Test.YtjjbeahdoblacaaRgAwake
import Derived.Test.YtjjbeahdoblacaaRgTwo
import Derived.Test.YtjjbeahdoblacaaRgAdd
import Derived.IntWalk
namespace Go.Proofs.Ytjjbeahdoblacaa
open Go.Shelf Go.RowKit Go.Lib Go.Sort Rg
def nmNew : Nm := [110, 101, 119]
/-- Behind Add of a new node. -/
theorem MadeAt.grown {w0 w w' : World} {l n : Nat} {L : List Nd} {lv v1 v2 v1' v2' : Value} {x : Nm} (h : MadeAt w0 l L lv v1 v2 w) (hk : Kp (fun b => b = l ∨ v1.ownBlock = some b ∨ v2.ownBlock = some b) w w') (hr : Ring2 w' w0.heap.size l v1' v2' (insAt (pos (ascOf L) x) x (ascOf L)) (srt (ptsOf L ++ pts1 x n))) :
    Ring2 w' w0.heap.size l v1' v2' (ascOf (L ++ [(x, n)])) (ptsOf (L ++ [(x, n)])) ∧ Below w0.heap.size w w' := by
  rw [ascOf_snoc, ptsOf_snoc]
  exact ⟨hr, h.ring.frame h.old.size hk⟩
theorem Ring2.owners {w : World} {B loc : Nat} {L : List Nd} {v1 v2 : Value} (h : Ring2 w B loc v1 v2 (ascOf L) (ptsOf L)) (hg : Rg.Good L) (hL : L.length ≤ 100) (key : Nm) (hkey : key.length ≤ 1000000) (n : Int) (hn2 : n ≤ 9223372036854775807) :
    Calls Try.prog 13 #[.pointer (some ⟨loc, 0, none⟩), .string (str key), .int .i64 n] w fun e w' => ∃ o, e = .returned o ∧ Own w' w.heap.size 9 1 o ((own (ptsOf L) (Sk.hash 255 key)).take n.toNat).length (strs ((own (ptsOf L) (Sk.hash 255 key)).take n.toNat)) ∧ Below w.heap.size w w' := by
  have := owners_any w B loc v1 v2 (ascOf L) (ptsOf L) key n h (srt_srt _) hg.sub (by rw [hg.len]; omega) (by have := hg.plen; omega) hkey hn2
  rwa [hg.owners_eq] at this
/-- All owners. -/
theorem Ring2.all {w : World} {B loc : Nat} {L : List Nd} {v1 v2 : Value} (h : Ring2 w B loc v1 v2 (ascOf L) (ptsOf L)) (hg : Rg.Good L) (hL : L.length ≤ 100) (key : Nm) (hkey : key.length ≤ 1000000) :
    Calls Try.prog 13 #[.pointer (some ⟨loc, 0, none⟩), .string (str key), .int .i64 100] w fun e w' => ∃ o, e = .returned o ∧ Own w' w.heap.size 9 1 o L.length (strs (own (ptsOf L) (Sk.hash 255 key))) ∧ Below w.heap.size w w' := by
  have := h.owners hg hL key hkey 100 (by omega)
  rw [List.take_of_length_le (by rw [hg.own_len]; omega), hg.own_len] at this
  exact this
set_option maxRecDepth 100000 in
set_option maxHeartbeats 16000000 in
theorem adds_walk (w : World) (v : Value) (l : List (Nat × Nat)) (W : Nat) (kv : Value) (keys : List Nm) (hW : W < 256) (hb : ∀ x ∈ l, x.1 < 256 ∧ x.2 < 256) (hR : Rd w 2 v l.length (pls l)) (hlm : l.length ≤ maxLen) (hK : Rd w 1 kv keys.length (strs keys)) (hkm : keys.length ≤ maxLen) (hks : ∀ x ∈ keys, x.length ≤ maxLen) :
    Calls Try.prog 4 #[v, .int .u8 (W : Int), kv] w fun e w' => e = .returned (.bool true) ∧ Below w.heap.size w w' := by
  unfold maxLen at hlm hkm hks
  have hAw := Lib.hid (fun w => awake_any w)
  obtain ⟨A, cap, rfl, hcap, -, -⟩ := id hR
  obtain ⟨AK, capK, rfl, hcapK, -, -⟩ := id hK
  by_cases hl : l.length ≤ 20 ∧ keys.length ≤ 20
  · obtain ⟨hl, hk⟩ := hl
    have hkn : ¬ 20 < keys.length := by omega
    have hln : ¬ 20 < l.length := by omega
    have hgd := mkL_good l
    have hll := mkL_len l
    have hnw : nmNew ∉ (mkL l).map (·.1) := mkL_other (by decide)
    have hmd := fun w' (hb' : Below w.heap.size w w') => made_any w' (.slice A l.length cap) l hl hb (hR.below hb')
    have Hmd := Lib.hid hmd
    have HK := Lib.hid hK
    have Hks := Lib.hid hks
    clear hmd hR hb hK hks
    generalize mkL l = L at *
    have Hgd := Lib.hid hgd
    have Hnw := Lib.hid hnw
    clear hgd hnw
    go_enter Try.func4, Try.ntmps4
    go_wp2_with fail
    refine (hAw.out _).mono ?_
    rintro e w1 ⟨rfl, hb1⟩
    have hmd1 := Hmd.out _ hb1
    have hB1 := Lib.hid hb1
    clear hb1
    go_wp2_with fail
    refine hmd1.mono ?_
    rintro e w2 ⟨loc, lv, v1, v2, rfl, hM⟩
    have hB2 := Lib.hid (Below.next hB1.out hB1.out.size hM.old)
    have HM := Lib.hid hM
    have hmd2 := Hmd.out _ hB2.out
    obtain ⟨AL, cL, rfl, hcL, -, -⟩ := Rd.own hM.list
    clear hmd1 Hmd hM
    go_wp2_with fail
    refine hmd2.mono ?_
    rintro e w3 ⟨loc2, lv2, u1, u2, rfl, hM2⟩
    have hB3 := Lib.hid (Below.next hB2.out hB2.out.size hM2.old)
    have HM2 := Lib.hid hM2
    obtain ⟨AL2, cL2, rfl, hcL2, -, -⟩ := Rd.own hM2.list
    clear hmd2
    have hadd := add_yes w3 w2.heap.size loc2 (1 + W % 16) u1 u2 _ _ nmNew hM2.ring Hgd.out.asc (by rw [Hgd.out.len]; omega) (by have := Hgd.out.plen; omega) hM2.old.size (by decide) (by decide) (by omega) (by omega) (fun h => Hnw.out (Hgd.out.mem.1 h))
    have HAdd : Hid (Calls Try.prog 20 #[.pointer (some ⟨loc2, 0, none⟩), .string ⟨#[110, 101, 119]⟩, .int .i64 (1 + (W : Int) % 16)] w3 fun e w' => e = .returned .nilIface ∧ Hid (∃ v1' v2', Ring2 w' w2.heap.size loc2 v1' v2' (ascOf (L ++ [(nmNew, 1 + W % 16)])) (ptsOf (L ++ [(nmNew, 1 + W % 16)])) ∧ Below w2.heap.size w3 w')) := by
      rw [show (1 + (W : Int) % 16) = ((1 + W % 16 : Nat) : Int) by omega]
      refine hadd.mono ?_
      rintro e w' ⟨rfl, hk, v1', v2', hr⟩
      exact ⟨rfl, v1', v2', HM2.out.grown hk hr⟩
    clear hM2 hadd
    have wa : IntKind.u8.wrap ((W : Int).tmod 16) = (W : Int) % 16 := by rw [Int.tmod_eq_emod_of_nonneg (by omega)]; simp [IntKind.wrap, IntKind.bits, IntKind.signed]; omega
    have wb : IntKind.i64.wrap ((W : Int).tmod 16) = (W : Int) % 16 := by rw [Int.tmod_eq_emod_of_nonneg (by omega)]; exact IntWalk.i64_in _ (by omega)
    have wc : IntKind.i64.wrap ((W : Int) % 16) = (W : Int) % 16 := IntWalk.i64_in _ (by omega)
    have wd : IntKind.i64.wrap (1 + (W : Int) % 16) = 1 + (W : Int) % 16 := IntWalk.i64_in _ (by omega)
    go_wp2_with fail
    refine HAdd.out.mono ?_
    rintro e w4 ⟨rfl, hS⟩
    have hx := hS.out
    obtain ⟨s1, s2, hS4, hb4⟩ := hx
    have hM4 := HM.out.below (HM2.out.old.trans hb4)
    have hb24 := HM2.out.old.trans hb4
    have hB4 := Lib.hid (Below.next hB2.out hB2.out.size hb24)
    have HR4 := Lib.hid hM4.ring
    have HS4 := Lib.hid hS4
    have HK4 := Lib.hid (HK.out.below hB4.out)
    have hgs := Hgd.out.snoc Hnw.out (n := 1 + W % 16) (by omega) (by omega)
    have HGS := Lib.hid hgs
    have hadded := Lib.hid (fun h => own_added Hgd.out Hnw.out (n := 1 + W % 16) (by omega) h)
    have hl2 : (L ++ [(nmNew, 1 + W % 16)]).length = L.length + 1 := by simp
    clear hS4 hb4 hM4 hb24 hgs hS HAdd HM HM2 HK
    generalize L ++ [(nmNew, 1 + W % 16)] = L2 at *
    obtain ⟨M, hMm⟩ : ∃ M, L.length + 1 = M := ⟨_, rfl⟩
    rw [hMm] at hl2
    have Hl2 := Lib.hid hl2
    clear hl2
    go_wp2_with fail
    go_loopw [62] (fun i wr => ∃ k : Nat, i = .int .i64 (k : Int) ∧ k ≤ keys.length ∧ Hid (Below w4.heap.size w4 wr)) (fun i _ => keys.length - (intOf i).toNat)
    case atStart => exact ⟨0, rfl, by omega, Below.refl _ _⟩
    case round =>
      obtain ⟨k, rfl, hk2, hB5⟩ := hrel
      by_cases hlt : k < keys.length
      · have hKr := HK4.out.below hB5.out
        obtain ⟨Ax, cx, he, -, -, hx⟩ := hKr
        cases he
        obtain ⟨b1, of1, rfl, _, hx1⟩ := hx (by omega)
        have d1 : wr.cell? ⟨b1, of1 + k, none⟩ = some (.string (str (keys[k]'(by omega)))) := hx1 k _ (strs_at (by omega))
        have hkl : (keys[k]'(by omega)).length ≤ 2 ^ 63 - 1 := Hks.out _ (List.getElem_mem _)
        generalize (keys[k]'(by omega)) = key at d1 hkl
        have hkz : (str key).size = key.length := str_size key
        have k1 : (0 : Int) ≤ (k : Int) := by omega
        have k2 : (k : Int) < (keys.length : Int) := by omega
        clear hx hx1
        by_cases h5 : key.length ≤ 500
        case neg =>
          have h6 : 500 < (str key).size := by omega
          go_wp2_with fail
          go_ret
          exact ⟨rfl, Below.next hB4.out hB4.out.size hB5.out⟩
        have h6 : ¬ 500 < (str key).size := by omega
        have hkz' := Lib.hid hkz
        clear hkz
        have hob := Ring2.all (HR4.out.below hB5.out) Hgd.out (by omega) key (by omega)
        go_wp2_with fail
        refine hob.mono ?_
        rintro e w5 ⟨o1, rfl, ho1, hb5⟩
        have hB6 := Lib.hid (Below.next hB5.out hB5.out.size hb5)
        have hoa := Ring2.all (HS4.out.below hB6.out) HGS.out (by rw [Hl2.out]; omega) key (by omega)
        obtain ⟨A1, c1, rfl, hc1, -, -⟩ := Rd.own ho1
        have Ho1 := Lib.hid (Rd.own ho1)
        clear ho1 hob hb5
        go_wp2_with fail
        refine hoa.mono ?_
        rintro e w6 ⟨o2, rfl, ho2, hb6⟩
        have hB7 := Lib.hid (Below.next hB6.out hB6.out.size hb6)
        have hO1 := Ho1.out.below hb6
        have hO2 := Rd.own ho2
        have hof := hadded.out (Sk.hash 255 key)
        have hol1 := Hgd.out.own_len (Sk.hash 255 key)
        have hol2 := HGS.out.own_len (Sk.hash 255 key)
        rw [Hl2.out] at hol2 hO2
        obtain ⟨A2, c2, rfl, hc2, -, -⟩ := id hO2
        clear ho2 hoa hb6 Ho1
        generalize own (ptsOf L) (Sk.hash 255 key) = O at *
        generalize own (ptsOf L2) (Sk.hash 255 key) = O2 at *
        have HO1 := Lib.hid hO1
        have HO2 := Lib.hid hO2
        have Hof := Lib.hid hof
        have Hol1 := Lib.hid hol1
        have Hol2 := Lib.hid hol2
        clear hO1 hO2 hof hol1 hol2
        have hlc : ((L.length : Int) + 1) = (M : Int) := by omega
        have hlw : IntKind.i64.wrap (M : Int) = (M : Int) := IntWalk.i64_in _ (by omega)
        go_wp2_with fail
        go_loopw [17, 77] (fun o i wi => ∃ j : Nat, i = .int .i64 (j : Int) ∧ j ≤ M ∧ Hid (Below w6.heap.size w6 wi) ∧ Hid (Own wi w6.heap.size 9 1 o ((O2.take j).filter (fun y => decide (y ≠ nmNew))).length (strs ((O2.take j).filter (fun y => decide (y ≠ nmNew)))))) (fun _ i _ => M - (intOf i).toNat)
        case atStart => exact ⟨0, rfl, by omega, Below.refl _ _, own_nil _ _ _ _⟩
        case round =>
          obtain ⟨j, rfl, hj, hB8, ho⟩ := hrel
          by_cases hlt2 : j < M
          · obtain ⟨Ay, cy, he, -, -, hy⟩ := HO2.out.below hB8.out
            cases he
            obtain ⟨b2, of2, rfl, _, hy1⟩ := hy (by omega)
            have hjl : j < O2.length := by rw [Hol2.out]; exact hlt2
            have d2 : wr.cell? ⟨b2, of2 + j, none⟩ = some (.string (str (O2[j]'hjl))) := hy1 j _ (strs_at hjl)
            have htk := take_filter (x := nmNew) hjl
            have j1 : (0 : Int) ≤ (j : Int) := by omega
            have j2 : (j : Int) < (M : Int) := by omega
            generalize (O2[j]'hjl) = x at d2 htk
            have Htk := Lib.hid htk
            clear hy hy1 htk
            by_cases hxn : x = nmNew
            · have e1 : ((str x).toList == [110, 101, 119]) = true := by rw [str_toList, hxn]; decide
              have htk2 := Htk.out
              rw [if_pos hxn, List.append_nil] at htk2
              have HB8 := Lib.hid (below_drewN hB8.out 0)
              clear hxn Htk
              have Htk2 := Lib.hid htk2
              clear htk2
              go_wp2_with fail
              go_roundw
              case rel => exact ⟨j + 1, by go_num, by omega, hB8.out, by rw [Htk2.out]; exact ho.out⟩
              case measure => simp [intOf]; omega
            · have e1 : ((str x).toList == [110, 101, 119]) = false := by rw [str_toList, beq_eq_false_iff_ne]; exact hxn
              have htk2 := Htk.out
              rw [if_neg hxn] at htk2
              have hfl : ((O2.take j).filter (fun y => decide (y ≠ nmNew))).length ≤ j := Nat.le_trans (List.length_filter_le _ _) (by rw [List.length_take]; omega)
              clear hxn Htk
              have Htk2 := Lib.hid htk2
              clear htk2
              have hBw := hB8.out.size
              generalize ((O2.take j).filter (fun y => decide (y ≠ nmNew))) = F at *
              go_wp2_with (at_builtin; refine push_str _ _ rfl rfl rfl ho.out rfl rfl (by omega) hBw ?_; intro v3 w3 ho3 hb3; replace ho3 := Lib.hid ho3; have hB3 := Lib.hid (hB8.out.trans hb3); clear hb3)
              go_roundw
              case rel =>
                have := ho3.out
                rw [← strs_snoc, show F.length + 1 = (F ++ [x]).length by simp, ← Htk2.out] at this
                exact ⟨j + 1, by go_num, by omega, hB3.out, this⟩
              case measure => simp [intOf]; omega
          · have hjM : j = M := by omega
            subst hjM
            have hF := Hof.out
            have ho' := ho.out
            rw [List.take_of_length_le (by rw [Hol2.out]; exact Nat.le_refl _), Hof.out, Hol1.out] at ho'
            have Ho' := Lib.hid (Rd.own ho')
            obtain ⟨A9, c9, rfl, hc9, -, -⟩ := Rd.own ho'
            have HO1r := Lib.hid (HO1.out.below hB8.out)
            have HO2r := Lib.hid (HO2.out.below hB8.out)
            have hT := texts_any (l1 := O) (l2 := O) wr (by rw [Hol1.out]; exact Ho'.out) (by rw [Hol1.out]; exact HO1r.out) (by unfold maxLen; rw [Hol1.out]; omega)
            simp only [decide_true] at hT
            clear ho' ho hF
            have HB9 := Lib.hid hB8
            go_wp2_with fail
            refine hT.mono ?_
            rintro e w7 ⟨rfl, q7, hw7⟩
            have hb7 : Below wr.heap.size wr w7 := by rw [hw7]; exact below_drewN (Below.refl _ _) _
            have hB10 := Lib.hid (Below.next hB7.out hB7.out.size (Below.next hB8.out hB8.out.size hb7))
            have HP1 := HO1r.out.below hb7
            have HP2 := HO2r.out.below hb7
            clear hw7 hb7 hT
            by_cases hL0 : L.length = 0
            · have hL1 : ¬ (0 : Int) < (L.length : Int) := by omega
              have hL2 : decide ((0 : Int) < (L.length : Int)) = false := decide_eq_false hL1
              have hL3 : decide (0 < L.length) = false := decide_eq_false (by omega)
              clear HP1 HP2 hL1 hL0
              go_wp2_with fail
              go_quiet (fail)
              all_goals
                go_wp2_with fail
                go_roundw
                case rel => exact ⟨k + 1, by go_num, by omega, below_drewN hB10.out _⟩
                case measure => simp [intOf]; omega
            · have hL1 : (0 : Int) < (L.length : Int) := by omega
              have hM1 : (0 : Int) < (j : Int) := by omega
              have hL2 : decide ((0 : Int) < (L.length : Int)) = true := decide_eq_true hL1
              have hL3 : decide (0 < L.length) = true := decide_eq_true (by omega)
              have hL4 : 0 < L.length := by omega
              clear hL0
              have hM4 : 0 < j := by omega
              obtain ⟨B1, e1, he1, -, -, x1⟩ := HP1
              cases he1
              obtain ⟨p1, o1, rfl, _, y1⟩ := x1 (by omega)
              obtain ⟨B2, e2, he2, -, -, x2⟩ := HP2
              cases he2
              obtain ⟨p2, o2, rfl, _, y2⟩ := x2 (by omega)
              have g1 : w7.cell? ⟨p1, o1 + 0, none⟩ = some (.string (str (O[0]'(by rw [Hol1.out]; omega)))) := y1 0 _ (strs_at (by rw [Hol1.out]; omega))
              have g2 : w7.cell? ⟨p2, o2 + 0, none⟩ = some (.string (str (O2[0]'(by rw [Hol2.out]; omega)))) := y2 0 _ (strs_at (by rw [Hol2.out]; omega))
              have hfo : (O2[0]'(by rw [Hol2.out]; omega)) = nmNew ∨ (O2[0]'(by rw [Hol2.out]; omega)) = (O[0]'(by rw [Hol1.out]; omega)) := by
                have hc1 : O = (O[0]'(by rw [Hol1.out]; omega)) :: O.drop 1 := by rw [List.getElem_cons_drop]; rfl
                have hc2 : O2 = (O2[0]'(by rw [Hol2.out]; omega)) :: O2.drop 1 := by rw [List.getElem_cons_drop]; rfl
                have hof := Hof.out
                rw [hc1, hc2] at hof
                exact first_of hof
              generalize (O[0]'(by rw [Hol1.out]; omega)) = a1 at g1 hfo
              generalize (O2[0]'(by rw [Hol2.out]; omega)) = a2 at g2 hfo
              rw [Nat.add_zero] at g1 g2
              clear x1 y1 x2 y2
              by_cases hn2 : a2 = nmNew
              · have s1 : ((str a2).toList == [110, 101, 119]) = true := by rw [str_toList, hn2]; decide
                clear hn2 hfo
                cases s2 : ((str a2).toList == (str a1).toList)
                all_goals
                  go_wp2_with fail
                  go_quiet (fail)
                  all_goals
                    go_wp2_with fail
                    go_roundw
                    case rel => exact ⟨k + 1, by go_num, by omega, below_drewN hB10.out _⟩
                    case measure => simp [intOf]; omega
              · have s2 : ((str a2).toList == (str a1).toList) = true := str_eq (hfo.resolve_left hn2)
                clear hn2 hfo
                go_wp2_with fail
                go_quiet (fail)
                all_goals
                  go_wp2_with fail
                  go_roundw
                  case rel => exact ⟨k + 1, by go_num, by omega, below_drewN hB10.out _⟩
                  case measure => simp [intOf]; omega
      · go_wp2_with fail
        go_ret
        exact ⟨rfl, Below.next hB4.out hB4.out.size hB5.out⟩
  · go_enter Try.func4, Try.ntmps4
    go_wp2_with fail
    refine (hAw.out _).mono ?_
    rintro e w1 ⟨rfl, hb1⟩
    have hB1 := Lib.hid hb1
    clear hb1
    go_wp2_with fail
    all_goals
      refine (hAw.out _).mono ?_
      rintro e w2 ⟨rfl, hb2⟩
      have hB2 := Lib.hid hb2
      clear hb2
      go_wp2_with fail
      go_ret
      exact ⟨rfl, Below.next hB1.out hB1.out.size hB2.out⟩
end Go.Proofs.Ytjjbeahdoblacaa
