/-
  Layer 33: the law's ring of the shields; its count of names.
-/
import Derived.Test.YtkcipebpknapkaaGreatDoorTRingS
import Derived.Test.YtkcipebpknapkaaGreatDoorTAwake
import Derived.IntWalk
namespace Go.Proofs.YtkcipebpknapkaaGreatDoor
open Go.Shelf Go.RowKit Go.Lib Go.Sort Rg Syn Ti
set_option maxHeartbeats 8000000 in
theorem rings_any (w : World) (v : Value) (l : List Bytes) (hR : Rd w 1 v l.length (strs l)) (hs : sumB l ≤ 2000) :
    Calls Tryz.prog 9 #[v] w fun e w' => ∃ loc v1 v2, e = .returned (.pointer (some ⟨loc, 0, none⟩)) ∧ Ring2 w' w.heap.size loc v1 v2 (ascOf (mkS l)) (ptsOf (mkS l)) ∧ Below w.heap.size w w' := by
  obtain ⟨A, cap, rfl, hcap, -, -⟩ := id hR
  have hnw := new_any w w.heap.size (Nat.le_refl _)
  have hll := sumB_len l
  replace hR := Lib.hid hR
  go_enter Tryz.func9, Tryz.ntmps9
  go_wp2_with fail
  refine hnw.mono ?_
  rintro e w1 ⟨rfl, hr1, hb1⟩
  have hM0 : Hid (Ring2 w1 w.heap.size w.heap.size (.slice none 0 0) (.slice none 0 0) (ascOf (mkS (l.take 0))) (ptsOf (mkS (l.take 0)))) := hr1
  have hB1 := Lib.hid hb1
  clear hr1 hb1 hnw
  have hBB := Lib.hid (show w.heap.size ≤ w.heap.size from Nat.le_refl _)
  obtain ⟨loc, hloc⟩ : ∃ loc, w.heap.size = loc := ⟨_, rfl⟩
  rw [hloc] at hM0 hB1 ⊢
  have Hloc := Lib.hid hloc
  clear hloc hBB
  go_wp2_with fail
  go_loopw [9] (fun i wr => ∃ k : Nat, i = .int .i64 (k : Int) ∧ k ≤ l.length ∧ Hid (∃ v1 v2, Ring2 wr loc loc v1 v2 (ascOf (mkS (l.take k))) (ptsOf (mkS (l.take k)))) ∧ Hid (Below loc w wr)) (fun i _ => l.length - (intOf i).toNat)
  case atStart => exact ⟨0, rfl, by omega, ⟨_, _, hM0⟩, hB1.out⟩
  case round =>
    clear hM0 hB1
    obtain ⟨k, rfl, hk, hM, hB⟩ := hrel
    obtain ⟨v1, v2, hr⟩ := hM.out
    by_cases hlt : k < l.length
    · obtain ⟨A', c', e', -, -, r'⟩ := hR.out.below (by rw [Hloc.out]; exact hB.out)
      cases e'
      obtain ⟨b1, o1, rfl, _, x1⟩ := r' (by omega)
      have d1 : wr.cell? ⟨b1, o1 + k, none⟩ = some (.string (str l[k])) := x1 k _ (strs_at hlt)
      have htk := Lib.hid (mkS_take hlt)
      have hgd := mkS_good (l.take k)
      have hln := mkS_len (l.take k)
      have hst := sumB_take_le l k
      have hLl : (mkS (l.take k)).length ≤ 1000 := by omega
      have hbz : loc ≤ wr.heap.size := by have := hB.out.size; rw [Hloc.out] at this; exact this
      clear x1 r' hln hst
      generalize l[k] = s at *
      generalize mkS (l.take k) = L at *
      have k1 : (0 : Int) ≤ (k : Int) := by omega
      have k2 : (k : Int) < (l.length : Int) := by omega
      by_cases hso : s = org
      · have q1 : ((str s).toList == [111, 114, 105, 103, 105, 110]) = true := by rw [str_toList, hso]; rfl
        have hn : Hid (mkS (l.take (k + 1)) = L) := by show _ = _; rw [htk.out]; unfold stepS; rw [if_pos hso]
        clear hso hr hgd
        go_wp2_with fail
        go_roundw
        case rel => exact ⟨k + 1, by go_num, by omega, by rw [hn.out]; exact hM, hB⟩
        case measure => simp [intOf]; omega
      · have q1 : ((str s).toList == [111, 114, 105, 103, 105, 110]) = false := by rw [str_toList, beq_eq_false_iff_ne]; exact hso
        have hadd : Hid (∀ X, Below wr.heap.size wr X → Calls Tryz.prog 21 #[.pointer (some ⟨loc, 0, none⟩), .string (str s), .int .i64 1] X fun e w' => (∃ r, e = .returned r) ∧ Hid (∃ v1 v2, Ring2 w' loc loc v1 v2 (ascOf (mkS (l.take (k + 1)))) (ptsOf (mkS (l.take (k + 1))))) ∧ Hid (Below loc w w')) := by
          intro X hX
          have hrX := hr.below hX
          have hzX : loc ≤ X.heap.size := Nat.le_trans hbz hX.size
          have hBX : Below loc w X := hB.out.trans (hX.mono hbz)
          by_cases he : addE s 1 (ascOf L) = 0
          · obtain ⟨h1, h2, h3⟩ := addE_zero he
            have hn : mkS (l.take (k + 1)) = L ++ [(s, 1)] := by rw [htk.out]; unfold stepS; rw [if_neg hso, if_pos he]
            have ha : Calls Tryz.prog 21 #[.pointer (some ⟨loc, 0, none⟩), .string (str s), .int .i64 1] X _ := add_yes X loc loc 1 v1 v2 _ _ s hrX hgd.good.asc (by rw [hgd.good.len]; omega) (by have := hgd.plen; omega) hzX h1 h2 (Nat.le_refl _) (by omega) h3
            refine ha.mono ?_
            rintro e w' ⟨rfl, hk, v1', v2', hr'⟩
            exact ⟨⟨_, rfl⟩, ⟨v1', v2', by rw [hn, ascOf_snoc, ptsOf_snoc]; exact hr'⟩, hBX.trans (hrX.frame hzX hk)⟩
          · have hn : mkS (l.take (k + 1)) = L := by rw [htk.out]; unfold stepS; rw [if_neg hso, if_neg he]
            refine (add_ref X loc loc v1 v2 _ _ s 1 hrX hgd.good.asc (by rw [hgd.good.len]; omega) he).mono ?_
            rintro e w' ⟨rfl, hb'⟩
            exact ⟨⟨_, rfl⟩, ⟨v1, v2, by rw [hn]; exact hrX.below hb'⟩, hBX.trans (hb'.mono hzX)⟩
        clear hso hr hgd hM
        go_wp2_with fail
        refine (hadd.out _ (Below.refl _ _)).mono ?_
        rintro e w5 ⟨⟨r, rfl⟩, hM5, hB5⟩
        go_wp2_with fail
        go_roundw
        case rel => exact ⟨k + 1, by go_num, by omega, hM5, hB5⟩
        case measure => simp [intOf]; omega
    · obtain rfl : k = l.length := by omega
      rw [List.take_of_length_le (Nat.le_refl _)] at hr
      have HR := Lib.hid hr
      clear hr hM
      go_wp2_with fail
      go_ret
      exact ⟨loc, v1, v2, rfl, by rw [Hloc.out]; exact HR.out, by rw [Hloc.out]; exact hB.out⟩
set_option maxHeartbeats 8000000 in
/-- The law's count over three lists, without wrap. -/
theorem long3_any (l0 l1 l2 : List Bytes) (v0 v1 v2 : Value) (g : Nat) (w : World) (hg : Blk w g 22 #[v0, v1, v2]) (h0 : Rd w 1 v0 l0.length (strs l0)) (h1 : Rd w 1 v1 l1.length (strs l1)) (h2 : Rd w 1 v2 l2.length (strs l2)) (hs : sumB l0 + sumB l1 + sumB l2 ≤ 4611686018427387904) :
    Calls Tryz.prog 7 #[.slice (some ⟨g, 0, none⟩) 3 3] w fun e w' => e = .returned (.bool (decide (2000 < sumB l0 + sumB l1 + sumB l2))) ∧ w' = w := by
  have hpick : ∀ i : Nat, i < 3 → ∃ (l : List Bytes) (A : Option Addr) (c : Nat), w.cell? ⟨g, i, none⟩ = some (.slice A l.length c) ∧ Rd w 1 (.slice A l.length c) l.length (strs l) ∧ ((i = 0 ∧ l = l0) ∨ (i = 1 ∧ l = l1) ∨ (i = 2 ∧ l = l2)) := by
    intro i hi
    match i, hi with
    | 0, _ => obtain ⟨A, c, rfl, -⟩ := id h0; exact ⟨l0, A, c, hg.cell 0, h0, .inl ⟨rfl, rfl⟩⟩
    | 1, _ => obtain ⟨A, c, rfl, -⟩ := id h1; exact ⟨l1, A, c, hg.cell 1, h1, .inr (.inl ⟨rfl, rfl⟩)⟩
    | 2, _ => obtain ⟨A, c, rfl, -⟩ := id h2; exact ⟨l2, A, c, hg.cell 2, h2, .inr (.inr ⟨rfl, rfl⟩)⟩
  have Hp := Lib.hid hpick
  clear hpick h0 h1 h2 hg
  go_enter Tryz.func7, Tryz.ntmps7
  go_wp2
  go_loopw [3, 10] (fun n i wr => ∃ k z : Nat, n = .int .i64 (z : Int) ∧ i = .int .i64 (k : Int) ∧ wr = w ∧ ((k = 0 ∧ z = 0) ∨ (k = 1 ∧ z = sumB l0) ∨ (k = 2 ∧ z = sumB l0 + sumB l1) ∨ (k = 3 ∧ z = sumB l0 + sumB l1 + sumB l2))) (fun _ i _ => 3 - (intOf i).toNat)
  case atStart => exact ⟨0, 0, rfl, rfl, rfl, .inl ⟨rfl, rfl⟩⟩
  case round =>
    obtain ⟨k, z, rfl, rfl, rfl, hz⟩ := hrel
    by_cases hlt : k < 3
    · obtain ⟨l, A, c, d1, hRl, hwh⟩ := Hp.out k hlt
      have hzl : z + sumB l ≤ 4611686018427387904 := by
        rcases hwh with ⟨h, rfl⟩ | ⟨h, rfl⟩ | ⟨h, rfl⟩ <;> rcases hz with ⟨h', rfl⟩ | ⟨h', rfl⟩ | ⟨h', rfl⟩ | ⟨h', rfl⟩ <;> omega
      have hnext : Hid ((k + 1 = 0 ∧ z + sumB l = 0) ∨ (k + 1 = 1 ∧ z + sumB l = sumB l0) ∨ (k + 1 = 2 ∧ z + sumB l = sumB l0 + sumB l1) ∨ (k + 1 = 3 ∧ z + sumB l = sumB l0 + sumB l1 + sumB l2)) := by
        show _ ∨ _
        rcases hwh with ⟨h, rfl⟩ | ⟨h, rfl⟩ | ⟨h, rfl⟩ <;> rcases hz with ⟨h', rfl⟩ | ⟨h', rfl⟩ | ⟨h', rfl⟩ | ⟨h', rfl⟩ <;> omega
      have hll := sumB_len l
      have HRl := Lib.hid hRl
      have k1 : (0 : Int) ≤ (k : Int) := by omega
      have k2 : (k : Int) < 3 := by omega
      clear hz hwh hRl
      go_wp2
      go_loopw [3, 16] (fun n i wi => ∃ j : Nat, n = .int .i64 ((z + sumB (l.take j) : Nat) : Int) ∧ i = .int .i64 (j : Int) ∧ j ≤ l.length ∧ wi = wr) (fun _ i _ => l.length - (intOf i).toNat)
      case atStart => exact ⟨0, by simp [sumB], rfl, by omega, rfl⟩
      case round =>
        obtain ⟨j, rfl, rfl, hj, rfl⟩ := hrel
        by_cases hlt2 : j < l.length
        · obtain ⟨A', c', e', -, -, hr⟩ := HRl.out
          cases e'
          obtain ⟨b1, o1, rfl, _, x1⟩ := hr (by omega)
          have d2 : wr.cell? ⟨b1, o1 + j, none⟩ = some (.string (str l[j])) := x1 j _ (strs_at hlt2)
          have hst := sumB_take hlt2
          have hle := sumB_take_le l (j + 1)
          obtain ⟨y, hy⟩ : ∃ y, z + sumB (l.take j) = y := ⟨_, rfl⟩
          have hy2 : Hid (z + sumB (l.take (j + 1)) = y + (1 + l[j].length)) := by show _ = _; omega
          have hyb : y + (1 + l[j].length) ≤ 4611686018427387904 := by omega
          have hsz := str_size l[j]
          rw [← hsz] at hy2 hyb
          clear hsz hst hle x1 hr
          generalize str l[j] = s at *
          rw [hy]
          clear hy
          have w1 : IntKind.i64.wrap (1 + (s.size : Int)) = 1 + (s.size : Int) := IntWalk.i64_in _ (by omega)
          have w2 : IntKind.i64.wrap ((y : Int) + (1 + (s.size : Int))) = ((y + (1 + s.size) : Nat) : Int) := (IntWalk.i64_in _ (by omega)).trans (by omega)
          have j1 : (0 : Int) ≤ (j : Int) := by omega
          have j2 : (j : Int) < (l.length : Int) := by omega
          go_wp2
          go_roundw
          case rel => exact ⟨j + 1, by rw [hy2.out]; first | rfl | (congr 1; omega) | simp, by go_num, by omega, by first | rfl | trivial⟩
          case measure => simp [intOf]; omega
        · obtain rfl : j = l.length := by omega
          rw [List.take_of_length_le (Nat.le_refl _)]
          go_wp2
          go_roundw
          case rel => exact ⟨k + 1, z + sumB l, rfl, by go_num, by first | rfl | trivial, hnext.out⟩
          case measure => simp [intOf]; omega
    · have hz3 : Hid (z = sumB l0 + sumB l1 + sumB l2) := by
        show _ = _
        rcases hz with ⟨h', rfl⟩ | ⟨h', rfl⟩ | ⟨h', rfl⟩ | ⟨h', rfl⟩ <;> omega
      have k2 : ¬ (k : Int) < 3 := by omega
      have hd : Hid (decide ((2000 : Int) < (z : Int)) = decide (2000 < sumB l0 + sumB l1 + sumB l2)) := by
        show _ = _
        rw [decide_eq_decide, hz3.out]; omega
      clear hz
      go_wp2
      go_ret
      exact ⟨by rw [← hd.out]; rfl, rfl⟩
end Go.Proofs.YtkcipebpknapkaaGreatDoor
