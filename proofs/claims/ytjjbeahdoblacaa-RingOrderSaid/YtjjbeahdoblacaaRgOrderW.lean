/-
  The walk of RingOrder.
-/
import Derived.Test.YtjjbeahdoblacaaRgAddsW
import Derived.Test.YtjjbeahdoblacaaRgOrdP
import Derived.Test.YtjjbeahdoblacaaRgRem
namespace Go.Proofs.Ytjjbeahdoblacaa
open Go.Shelf Go.RowKit Go.Lib Go.Sort Rg
set_option maxRecDepth 100000 in
set_option maxHeartbeats 16000000 in
theorem order_walk (w : World) (v : Value) (l : List (Nat × Nat)) (W : Nat) (key : Nm) (hW : W < 256) (hb : ∀ x ∈ l, x.1 < 256 ∧ x.2 < 256) (hR : Rd w 2 v l.length (pls l)) (hlm : l.length ≤ maxLen) (hkm : key.length ≤ maxLen) :
    Calls Try.prog 8 #[v, .int .u8 (W : Int), .string (str key)] w fun e w' => e = .returned (.bool true) ∧ Below w.heap.size w w' := by
  unfold maxLen at hlm hkm
  have hkz : (str key).size = key.length := str_size key
  have hAw := Lib.hid (fun w => awake_any w)
  obtain ⟨A, cap, rfl, hcap, -, -⟩ := id hR
  by_cases hl : l.length ≤ 20 ∧ key.length ≤ 500
  · obtain ⟨hl, hk⟩ := hl
    have hkn : ¬ 500 < (str key).size := by omega
    have hln : ¬ 20 < l.length := by omega
    have hgd := mkL_good l
    have hll := mkL_len l
    have hng := mkL_guest (l := l)
    have hnm : ∀ y ∈ mkL l, y.1.length = 5 := fun y hy => by obtain ⟨n, e⟩ := mkL_nm hy; rw [e]; rfl
    have hmd := fun w' (hb' : Below w.heap.size w w') => made_any w' (.slice A l.length cap) l hl hb (hR.below hb')
    have Hmd := Lib.hid hmd
    clear hmd hR hb hkz
    generalize mkL l = L at *
    have Hgd := Lib.hid hgd
    have Hng := Lib.hid hng
    have Hnm := Lib.hid hnm
    clear hgd hng hnm
    go_enter Try.func8, Try.ntmps8
    go_wp2_with fail
    refine (hAw.out _).mono ?_
    rintro e w1 ⟨rfl, hb1⟩
    have hmd1 := Hmd.out _ hb1
    have hB1 := Lib.hid hb1
    clear hb1
    go_wp2_with fail
    refine hmd1.mono ?_
    rintro e w2 ⟨loc, lv, v1, v2, rfl, hM⟩
    have hB2 := Lib.hid (Below.next hB1.out hB1.out.size hM.old)
    have HM := Lib.hid hM
    obtain ⟨AL, cL, rfl, hcL, -, -⟩ := Rd.own hM.list
    have hnw := new_any w2 w2.heap.size (Nat.le_refl _)
    clear hmd1 Hmd hM
    go_wp2_with fail
    refine hnw.mono ?_
    rintro e w3 ⟨rfl, hN3, hb3⟩
    have hB3 := Lib.hid hb3
    have hz3 := hb3.size
    generalize hlo : w2.heap.size = loc2 at *
    have HMb := Lib.hid (fun (wr : World) (h : Below loc2 w2 wr) => HM.out.below (by rw [hlo]; exact h))
    have HBf := Lib.hid (fun (wr : World) (h : Below loc2 w2 wr) => (show Below w.heap.size w wr from Below.next hB2.out hB2.out.size (by rw [hlo]; exact h)))
    clear hlo HM
    clear hb3 hnw
    have hadd := add_yes w3 loc2 loc2 (1 + W % 16) _ _ [] [] nmGuest hN3 List.Pairwise.nil (by simp) (by simp) hz3 (by decide) (by decide) (by omega) (by omega) (by simp)
    have HAdd : Hid (Calls Try.prog 20 #[.pointer (some ⟨loc2, 0, none⟩), .string ⟨#[103, 117, 101, 115, 116]⟩, .int .i64 (1 + (W : Int) % 16)] w3 fun e w' => e = .returned .nilIface ∧ Hid (∃ v1' v2', Ring2 w' loc2 loc2 v1' v2' (ascOf (gl L (1 + W % 16) L.length)) (ptsOf (gl L (1 + W % 16) L.length)) ∧ Below loc2 w3 w')) := by
      rw [show (1 + (W : Int) % 16) = ((1 + W % 16 : Nat) : Int) by omega]
      refine hadd.mono ?_
      rintro e w' ⟨rfl, hk, v1', v2', hr⟩
      refine ⟨rfl, v1', v2', ?_, hN3.frame hz3 hk⟩
      have e1 : gl L (1 + W % 16) L.length = [] ++ [(nmGuest, 1 + W % 16)] := by simp [gl]
      rw [e1, ascOf_snoc, ptsOf_snoc]
      exact hr
    clear hadd hN3
    have wa : IntKind.u8.wrap ((W : Int).tmod 16) = (W : Int) % 16 := by rw [Int.tmod_eq_emod_of_nonneg (by omega)]; simp [IntKind.wrap, IntKind.bits, IntKind.signed]; omega
    have wb : IntKind.i64.wrap ((W : Int).tmod 16) = (W : Int) % 16 := by rw [Int.tmod_eq_emod_of_nonneg (by omega)]; exact IntWalk.i64_in _ (by omega)
    have wc : IntKind.i64.wrap ((W : Int) % 16) = (W : Int) % 16 := IntWalk.i64_in _ (by omega)
    have wd : IntKind.i64.wrap (1 + (W : Int) % 16) = 1 + (W : Int) % 16 := IntWalk.i64_in _ (by omega)
    go_wp2_with fail
    refine HAdd.out.mono ?_
    rintro e w4 ⟨rfl, hS⟩
    obtain ⟨s1, s2, hS4, hb4⟩ := hS.out
    obtain ⟨n, hn⟩ : ∃ n, 1 + W % 16 = n := ⟨_, rfl⟩
    have hn1 : 1 ≤ n ∧ n ≤ 16 := by omega
    rw [hn] at hS4
    have hb24 := hB3.out.trans hb4
    have hgG : Rg.Good (gl L n L.length) := ⟨by simp [gl], by intro y hy; simp [gl] at hy; subst hy; exact hn1⟩
    have we : IntKind.i64.wrap ((L.length : Int) - 1) = (L.length : Int) - 1 := IntWalk.i64_in _ (by omega)
    have Hn1 := Lib.hid hn1
    have Hst : Hid (∃ u1 u2, Ring2 w4 loc2 loc2 u1 u2 (ascOf (gl L n L.length)) (ptsOf (gl L n L.length)) ∧ Below loc2 w2 w4 ∧ Rg.Good (gl L n L.length)) := ⟨s1, s2, hS4, hb24, hgG⟩
    clear hS4 hb4 hb24 hgG hS HAdd hn hn1 wa wb wc wd
    go_wp2_with fail
    go_loopw [11] (fun i wr => ∃ (z : Int) (m : Nat), i = .int .i64 z ∧ z = (m : Int) - 1 ∧ m ≤ L.length ∧ Hid (∃ u1 u2, Ring2 wr loc2 loc2 u1 u2 (ascOf (gl L n m)) (ptsOf (gl L n m)) ∧ Below loc2 w2 wr ∧ Rg.Good (gl L n m))) (fun i _ => (intOf i + 1).toNat)
    case atStart => exact ⟨_, L.length, rfl, rfl, by omega, Hst⟩
    case round =>
      clear Hst
      obtain ⟨z, m, rfl, hzm, hm, hs⟩ := hrel
      by_cases hm0 : m = 0
      · subst hm0
        obtain rfl : z = -1 := by omega
        obtain ⟨u1, u2, hr, hbr, hgg⟩ := hs.out
        have hbz : loc2 ≤ wr.heap.size := by have := hr.base; have := hr.blk.lt; omega
        have hgm : nmGuest ∈ (gl L n 0).map (·.1) := by simp [gl]
        have hl5 : (gl L n 0).length ≤ 21 := by simp [gl]; omega
        have hrem := rem_yes wr loc2 loc2 u1 u2 _ _ nmGuest hr hgg.asc (by rw [hgg.len]; omega) (by have := hgg.plen; omega) (hgg.mem.2 hgm) ((Rg.own_mem (h := 0)).1 (hgg.own_mem.2 hgm))
        rw [erase_names hgg Hgd.out gl_all, offN_ptsOf hgg, gl_less Hng.out] at hrem
        have HRem : Hid (Calls Try.prog 23 #[.pointer (some ⟨loc2, 0, none⟩), .string ⟨#[103, 117, 101, 115, 116]⟩] wr fun e w' => e = .returned (.bool true) ∧ Hid (∃ v1' v2', Ring2 w' loc2 loc2 v1' v2' (ascOf L) (ptsOf L)) ∧ Hid (Below loc2 w2 w')) := by
          refine hrem.mono ?_
          rintro e w' ⟨rfl, hk, v1', v2', hr'⟩
          exact ⟨rfl, ⟨v1', v2', hr'⟩, hbr.trans (hr.frame hbz hk)⟩
        clear hrem hgm hl5 hr hbr hgg hs hzm hm
        go_wp2_with fail
        refine HRem.out.mono ?_
        rintro e w5 ⟨rfl, hs5, hb5⟩
        have ho1 := Ring2.all (HMb.out _ hb5.out).ring Hgd.out (by omega) key (by omega)
        clear HRem
        go_wp2_with fail
        refine ho1.mono ?_
        rintro e w6 ⟨o1, rfl, ho1, hb6⟩
        have Ho1 := Lib.hid (Rd.own ho1)
        have hz5 : loc2 ≤ w5.heap.size := by obtain ⟨t1, t2, h⟩ := hs5.out; have := h.base; have := h.blk.lt; omega
        have hb6' := Lib.hid (hb5.out.trans (hb6.mono hz5))
        have hs6 : Hid (∃ v1' v2', Ring2 w6 loc2 loc2 v1' v2' (ascOf L) (ptsOf L)) := by obtain ⟨t1, t2, h⟩ := hs5.out; exact ⟨t1, t2, h.below hb6⟩
        have hz6 := Nat.le_trans hz5 hb6.size
        obtain ⟨A1, c1, rfl, hc1, -, -⟩ := Rd.own ho1
        have ho2 : Calls Try.prog 13 #[.pointer (some ⟨loc2, 0, none⟩), .string (str key), .int .i64 100] w6 fun e w' => ∃ o, e = .returned o ∧ Own w' w6.heap.size 9 1 o L.length (strs (own (ptsOf L) (Sk.hash 255 key))) ∧ Below w6.heap.size w6 w' := by
          obtain ⟨t1, t2, h⟩ := hs6.out
          exact Ring2.all h Hgd.out (by omega) key (by omega)
        clear hb5 ho1 hb6 hs5
        go_wp2_with fail
        refine ho2.mono ?_
        rintro e w7 ⟨o2, rfl, ho2, hb7⟩
        have Ho2 := Lib.hid (Rd.own ho2)
        have Ho1' := Lib.hid (Ho1.out.below hb7)
        have hb7' := Lib.hid (hb6'.out.trans (hb7.mono hz6))
        have hs7 : Hid (∃ v1' v2', Ring2 w7 loc2 loc2 v1' v2' (ascOf L) (ptsOf L)) := by obtain ⟨t1, t2, h⟩ := hs6.out; exact ⟨t1, t2, h.below hb7⟩
        have hz7 := Nat.le_trans hz6 hb7.size
        obtain ⟨A2, c2, rfl, hc2, -, -⟩ := Rd.own ho2
        have hol := Hgd.out.own_len (Sk.hash 255 key)
        generalize own (ptsOf L) (Sk.hash 255 key) = O at *
        have hT := texts_any (l1 := O) (l2 := O) w7 (by rw [hol]; exact Ho1'.out) (by rw [hol]; exact Ho2.out) (by unfold maxLen; rw [hol]; omega)
        simp only [decide_true] at hT
        clear ho2 hb7 hb6' hs6 Ho1 hol
        go_wp2_with fail
        refine hT.mono ?_
        rintro e w8 ⟨rfl, q8, hw8⟩
        have hb8 := Lib.hid (show Below loc2 w2 w8 by rw [hw8]; exact below_drewN hb7'.out _)
        have hs8 : Hid (∃ v1' v2', Ring2 w8 loc2 loc2 v1' v2' (ascOf L) (ptsOf L)) := by obtain ⟨t1, t2, h⟩ := hs7.out; exact ⟨t1, t2, h.below (by rw [hw8]; exact below_drewN (Below.refl _ _) _)⟩
        have hz8 : loc2 ≤ w8.heap.size := by rw [hw8]; exact hz7
        clear hT hw8 hb7' hs7
        have hn1 := nodes_yes w8 _ loc v1 v2 _ _ (HMb.out _ hb8.out).ring (by rw [Hgd.out.len]; omega)
        rw [Hgd.out.len] at hn1
        go_wp2_with fail
        refine hn1.mono ?_
        rintro e w9 ⟨o3, rfl, ho3, hb9⟩
        have Ho3 := Lib.hid (Rd.own ho3)
        have hb9' := Lib.hid (hb8.out.trans (hb9.mono hz8))
        have hz9 := Nat.le_trans hz8 hb9.size
        have hn2 : Calls Try.prog 18 #[.pointer (some ⟨loc2, 0, none⟩)] w9 fun e w' => ∃ o, e = .returned o ∧ Own w' w9.heap.size 9 1 o L.length (strs (ascOf L)) ∧ Below w9.heap.size w9 w' := by
          obtain ⟨t1, t2, h⟩ := hs8.out
          have := nodes_yes w9 _ loc2 t1 t2 _ _ (h.below hb9) (by rw [Hgd.out.len]; omega)
          rwa [Hgd.out.len] at this
        obtain ⟨A3, c3, rfl, hc3, -, -⟩ := Rd.own ho3
        clear hn1 ho3 hb9 hs8 hb8
        go_wp2_with fail
        refine hn2.mono ?_
        rintro e w10 ⟨o4, rfl, ho4, hb10⟩
        have Ho4 := Lib.hid (Rd.own ho4)
        have Ho3' := Lib.hid (Ho3.out.below hb10)
        have hb10' := Lib.hid (hb9'.out.trans (hb10.mono hz9))
        obtain ⟨A4, c4, rfl, hc4, -, -⟩ := Rd.own ho4
        have hal := Hgd.out.len
        generalize ascOf L = N at *
        have hT := texts_any (l1 := N) (l2 := N) w10 (by rw [hal]; exact Ho3'.out) (by rw [hal]; exact Ho4.out) (by unfold maxLen; rw [hal]; omega)
        simp only [decide_true] at hT
        clear ho4 hb10 hn2 hal
        go_wp2_with fail
        refine hT.mono ?_
        rintro e w11 ⟨rfl, q11, hw11⟩
        have hfin := Lib.hid (HBf.out w11 (by rw [hw11]; exact below_drewN hb10'.out _))
        clear hw11 hT
        go_wp2_with fail
        go_ret
        exact ⟨rfl, hfin.out⟩
      · obtain ⟨k, rfl⟩ : ∃ k, m = k + 1 := ⟨m - 1, by omega⟩
        obtain rfl : z = (k : Int) := by omega
        have hkL : k < L.length := by omega
        obtain ⟨u1, u2, hr, hbr, hgg⟩ := hs.out
        have hMr := HMb.out _ hbr
        obtain ⟨g, c, he⟩ := own_some hMr.list (by omega)
        cases he
        have e0 : wr.cell? ⟨g, k * 2, none⟩ = some (.string (str L[k].1)) := own_at hMr.list (two_at0 _ _ hkL)
        have e1 : wr.cell? ⟨g, k * 2 + 1, none⟩ = some (.int .i64 (L[k].2 : Int)) := own_at hMr.list (two_at1 _ _ hkL)
        have hnew := gl_new Hgd.out Hng.out (g := n) hkL
        have hwt := Hgd.out.wt _ (List.getElem_mem hkL)
        have hsn := hgg.snoc hnew hwt.1 hwt.2
        have h5 := Hnm.out _ (List.getElem_mem hkL)
        have hgt := gl_step (g := n) hkL
        have hbz : loc2 ≤ wr.heap.size := by have := hr.base; have := hr.blk.lt; omega
        have HI : Hid (∀ X, Below wr.heap.size wr X → Calls Try.prog 20 #[.pointer (some ⟨loc2, 0, none⟩), .string (str L[k].1), .int .i64 (L[k].2 : Int)] X fun e w' => e = .returned .nilIface ∧ Hid (∃ u1 u2, Ring2 w' loc2 loc2 u1 u2 (ascOf (gl L n k)) (ptsOf (gl L n k)) ∧ Below loc2 w2 w' ∧ Rg.Good (gl L n k))) := fun X hX => by
          have hrX := hr.below hX
          have hl5 : (gl L n (k + 1)).length ≤ 21 := by simp [gl]; omega
          have ha := add_yes X loc2 loc2 L[k].2 u1 u2 _ _ L[k].1 hrX hgg.asc (by rw [hgg.len]; omega) (by have := hgg.plen; omega) (Nat.le_trans hbz hX.size) (by omega) (by omega) hwt.1 hwt.2 (fun h => hnew (hgg.mem.1 h))
          refine ha.mono ?_
          rintro e w' ⟨rfl, hk, v1', v2', hr'⟩
          refine ⟨rfl, v1', v2', ?_, hbr.trans ((hX.mono hbz).trans (hrX.frame (Nat.le_trans hbz hX.size) hk)), ?_⟩
          · rw [hgt, ascOf_snoc, ptsOf_snoc]; exact hr'
          · rw [hgt]; exact hsn
        have k1 : (0 : Int) ≤ (k : Int) := by omega
        have k2 : (k : Int) < (L.length : Int) := by omega
        have hpy : IntKind.i64.wrap ((k : Int) - 1) = (k : Int) - 1 := IntWalk.i64_in _ (by omega)
        generalize L[k].1 = nm at *
        generalize L[k].2 = wt at *
        clear hr hbr hMr hs hnew hwt hsn h5 hgt hgg hzm hm hm0
        go_upto_region 12 with fail
        go_region_with (go_at_call 20; refine (HI.out _ (by first | with_reducible exact Below.refl _ _ | with_reducible exact (Below.refl _ _).drew)).mono ?_; rintro e w6 ⟨rfl, hs6⟩)
        all_goals
          go_wp2_with fail
          go_roundw
          case rel => exact ⟨_, k, rfl, rfl, by omega, hs6⟩
          case measure => simp [intOf]
  · go_enter Try.func8, Try.ntmps8
    go_wp2_with fail
    refine (hAw.out _).mono ?_
    rintro e w1 ⟨rfl, hb1⟩
    have hB1 := Lib.hid hb1
    clear hb1
    go_wp2_with fail
    all_goals
      refine (hAw.out _).mono ?_
      rintro e w2 ⟨rfl, hb2⟩
      have hB2 := Lib.hid hb2
      clear hb2
      go_wp2_with fail
      go_ret
      exact ⟨rfl, Below.next hB1.out hB1.out.size hB2.out⟩
end Go.Proofs.Ytjjbeahdoblacaa
