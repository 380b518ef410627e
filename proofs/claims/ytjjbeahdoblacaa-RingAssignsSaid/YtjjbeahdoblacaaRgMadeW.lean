/-
  Layer 31: the walk of made.
-/
import Derived.Test.YtjjbeahdoblacaaRgMade
namespace Go.Proofs.Ytjjbeahdoblacaa
open Go.Shelf Go.RowKit Go.Lib Go.Sort Rg
attribute [local go_sem ↓] Go.wp_at_zero Go.wp_at_succ
theorem Blk.ne_ty {w : World} {g g' : Nat} {t t' : TypeId} {cs cs' : Array Value} (h : Blk w g t cs) (h' : Blk w g' t' cs') (ht : t ≠ t') : g ≠ g' := by
  rintro rfl
  unfold Blk at h h'
  rw [h] at h'
  injection h' with h'
  injection h' with _ h2 _
  exact ht h2
theorem off3 {l X : Nat} {v1 v2 : Value} (h0 : X ≠ l) (h1 : v1.ownBlock ≠ some X) (h2 : v2.ownBlock ≠ some X) : ¬ (X = l ∨ v1.ownBlock = some X ∨ v2.ownBlock = some X) := by
  rintro (h | h | h)
  · exact h0 h
  · exact h1 h
  · exact h2 h
theorem blk_grown {w w' : World} {g B sz n : Nat} {e t : TypeId} {cs : Array Value} {v : Value} {xs : List Value} (h : Blk w g t cs) (hO : Own w B e sz v n xs) (ht : e ≠ t) (hg : w.grownBy w' v.ownBlock) : Blk w' g t cs :=
  Blk.kp (F := fun b => v.ownBlock = some b) h (Own.ne hO h ht) ((Kp.refl _ w).grown hg (fun _ hk _ => hk))
/-- Behind the append of a node onto the list. -/
theorem MadeAt.pushed {w0 w6 w7 w9 : World} {o : Obj} {l : Nat} {L L' : List Nd} {lv lv' v1 v2 : Value} {xs : List Value} (hl : Own w6 w0.heap.size 39 2 lv L.length xs) (hb : Below w0.heap.size w0 w6) (hr : Ring2 w6 w0.heap.size l v1 v2 (ascOf L') (ptsOf L')) (h7 : Below w6.heap.size w6 w7)
    (hg : (w7.alloc o).grownBy w9 lv.ownBlock) (hO : Own w9 w0.heap.size 39 2 lv' L'.length (nvs L')) : MadeAt w0 l L' lv' v1 v2 w9 := by
  have h8 : Below w6.heap.size w6 (w7.alloc o) := h7.alloc h7.size o
  have hl8 := own_below hl h8
  have hr8 := hr.below h8
  have hk : Kp (fun b => lv.ownBlock = some b) (w7.alloc o) w9 := (Kp.refl (fun b => lv.ownBlock = some b) _).grown hg (fun k hk _ => hk)
  have hs8 : w0.heap.size ≤ (w7.alloc o).heap.size := Nat.le_trans hb.size h8.size
  refine ⟨hr8.kp hk (fun e => Own.ne hl8 hr8.blk (by decide) e) (fun k hk' e => Own.apart hl8 hr8.nodes (by decide) e hk') (fun k hk' e => Own.apart hl8 hr8.points (by decide) e hk'), hO, ?_⟩
  exact (Below.next hb hb.size h8).trans (hk.toBelow hs8 (fun k hk => (World.ownsRow.lt hl8 k hk).1))
/-- Whether a name stands among the first nodes. -/
def knB (L : List Nd) (n j : Nat) : Bool := decide (nmOf n ∈ (L.take j).map (·.1))
theorem knB_zero (L : List Nd) (n : Nat) : knB L n 0 = false := by simp [knB]
theorem knB_all (L : List Nd) (n : Nat) : knB L n L.length = decide (nmOf n ∈ L.map (·.1)) := by unfold knB; rw [List.take_length]
theorem knB_succ {L : List Nd} {j : Nat} (h : j < L.length) (n : Nat) : knB L n (j + 1) = (knB L n j || ((str L[j].1).toList == (str (nmOf n)).toList)) := by
  unfold knB
  rw [List.take_succ_eq_append_getElem h, List.map_append, str_toList, str_toList, Bool.eq_iff_iff]
  simp only [decide_eq_true_eq, List.mem_append, List.map_cons, List.map_nil, List.mem_singleton, Bool.or_eq_true, beq_iff_eq]
  constructor
  · rintro (h | h)
    · exact .inl h
    · exact .inr h.symm
  · rintro (h | h)
    · exact .inl h
    · exact .inr h.symm
set_option maxRecDepth 100000 in
set_option maxHeartbeats 16000000 in
theorem made_any (w : World) (v : Value) (l : List (Nat × Nat)) (hl : l.length ≤ 20) (hb : ∀ x ∈ l, x.1 < 256 ∧ x.2 < 256) (hR : Rd w 2 v l.length (pls l)) :
    Calls Try.prog 11 #[v] w fun e w' => ∃ loc lv v1 v2, e = .returned (.tuple #[.pointer (some ⟨loc, 0, none⟩), lv, .bool true]) ∧ MadeAt w loc (mkL l) lv v1 v2 w' := by
  obtain ⟨A, cap, rfl, hcap, -, -⟩ := id hR
  have hnw := new_any w w.heap.size (Nat.le_refl _)
  replace hR := Lib.hid hR
  replace hb := Lib.hid hb
  go_enter Try.func11, Try.ntmps11
  go_wp2_with fail
  refine hnw.mono ?_
  rintro e w1 ⟨rfl, hr1, hb1⟩
  have hM0 : Hid (MadeAt w w.heap.size (mkL (l.take 0)) (.slice none 0 0) (.slice none 0 0) (.slice none 0 0) w1) := ⟨hr1, own_nil _ _ _ _, hb1⟩
  clear hr1 hb1 hnw
  generalize hloc : w.heap.size = loc at hM0 ⊢
  have Hloc := Lib.hid hloc
  clear hloc
  go_wp2_with fail
  go_loopw [6, 16] (fun lv i wr => ∃ k : Nat, i = .int .i64 (k : Int) ∧ k ≤ l.length ∧ ∃ v1 v2, Hid (MadeAt w loc (mkL (l.take k)) lv v1 v2 wr)) (fun _ i _ => l.length - (intOf i).toNat)
  case atStart => exact ⟨0, rfl, by omega, _, _, hM0⟩
  case round =>
    clear hM0
    obtain ⟨k, rfl, hk, v1, v2, hM⟩ := hrel
    by_cases hlt : k < l.length
    · obtain ⟨A', cap', e', -, -, r'⟩ := hR.out.below (hM.out.old)
      cases e'
      obtain ⟨b1, o1, rfl, hb1l, x1⟩ := r' (by omega)
      have d1 : wr.cell? ⟨b1, o1 + k * 2, none⟩ = some (.int .u8 (l[k].1 : Int)) := x1 _ _ (two_at0 _ _ hlt)
      have d2 : wr.cell? ⟨b1, o1 + k * 2 + 1, none⟩ = some (.int .u8 (l[k].2 : Int)) := x1 _ _ (two_at1 _ _ hlt)
      have htk := Lib.hid (mkL_take hlt)
      have hbk := hb.out _ (List.getElem_mem hlt)
      have hgd := Lib.hid (mkL_good (l.take k))
      have hln := mkL_len (l.take k)
      rw [List.length_take] at hln
      have hLl : (mkL (l.take k)).length ≤ 20 := by omega
      clear x1 r' hln
      generalize l[k] = xx at *
      obtain ⟨n, wt⟩ := xx
      simp only at d1 d2 htk hbk
      obtain ⟨hn, hw⟩ := hbk
      generalize mkL (l.take k) = L at *
      obtain ⟨A6, c6, rfl, hc6, -, -⟩ := Rd.own hM.out.list
      have hX : Hid (MadeAt w loc L (.slice A6 L.length c6) v1 v2 (wr.alloc (.cells #[.int .u8 (n : Int), .int .u8 (wt : Int)] 59))) := hM.out.below ((Below.refl _ wr).alloc (Nat.le_refl _) _)
      have hkX := blk_new wr 59 #[.int .u8 (n : Int), .int .u8 (wt : Int)]
      go_upto_region 6 with fail
      generalize wr.alloc (.cells #[.int .u8 (n : Int), .int .u8 (wt : Int)] 59) = W2 at *
      generalize wr.heap.size = X at *
      clear d1 d2 hM hb1l
      have hXs := hkX.lt
      go_wp2_with fail
      have hk0 := Lib.hid (knB_zero L n)
      go_loopw [9, 22] (fun kn j wi => ∃ jj : Nat, j = .int .i64 (jj : Int) ∧ jj ≤ L.length ∧ kn = .bool (knB L n jj) ∧ Hid (Below W2.heap.size W2 wi)) (fun _ j _ => L.length - (intOf j).toNat)
      case atStart => exact ⟨0, rfl, by omega, by rw [hk0.out], Below.refl _ _⟩
      case round =>
        obtain ⟨jj, rfl, hjj, rfl, hBi⟩ := hrel
        by_cases hlt2 : jj < L.length
        · have hXi := Lib.hid (hX.out.below hBi.out)
          have hkXi := hkX.below hBi.out
          obtain ⟨g6, c6', he⟩ := own_some hXi.out.list (by omega)
          cases he
          have d1 : wr.cell? ⟨g6, jj * 2, none⟩ = some (.string (str L[jj].1)) := own_at hXi.out.list (two_at0 _ _ hlt2)
          have d2 : wr.cell? ⟨g6, jj * 2 + 1, none⟩ = some (.int .i64 (L[jj].2 : Int)) := own_at hXi.out.list (two_at1 _ _ hlt2)
          have hsc := Lib.hid (knB_succ hlt2 n)
          generalize L[jj] = y at *
          obtain ⟨yn, yw⟩ := y
          simp only at d1 d2 hsc
          have hbw : Below wr.heap.size wr (wr.alloc (.cells #[.string (str yn), .int .i64 (yw : Int)] 39)) := (Below.refl _ wr).alloc (Nat.le_refl _) _
          have hkY := blk_new wr 39 #[.string (str yn), .int .i64 (yw : Int)]
          have hkX3 := hkXi.below hbw
          have hB3 := Lib.hid (Below.next hBi.out hBi.out.size hbw)
          go_upto_region 10 with fail
          generalize wr.alloc (.cells #[.string (str yn), .int .i64 (yw : Int)] 39) = W3 at *
          generalize wr.heap.size = Y at *
          clear d1 d2 hbw hXi hkXi
          have y0 : W3.cell? ⟨Y, 0, none⟩ = some (.string (str yn)) := hkY.cell 0
          have x0 : W3.cell? ⟨X, 0, none⟩ = some (.int .u8 (n : Int)) := hkX3.cell 0
          have hYs := hkY.lt
          have hX3s := hkX3.lt
          cases hkn : knB L n jj
          · rw [hkn] at hsc
            have HKN := Lib.hid hkn
            clear hkn
            have hN := Lib.hid (fun w => name_any n hn w)
            have hcY := Lib.hid (fun (w' : World) (hb : Below W3.heap.size W3 w') => (show w'.cell? ⟨Y, 0, none⟩ = some (.string (str yn)) ∧ w'.cell? ⟨X, 0, none⟩ = some (.int .u8 (n : Int)) from ⟨(hkY.below hb).cell 0, (hkX3.below hb).cell 0⟩))
            go_region_held3 (fun w' => w'.cell? ⟨Y, 0, none⟩ = some (.string (str yn)) ∧ w'.cell? ⟨X, 0, none⟩ = some (.int .u8 (n : Int))) (first | exact hcY.out _ (by assumption) | go_keep)
              ((go_at_call 17; refine (hN.out _).mono ?_; rintro e w4 ⟨rfl, hb4⟩; (first | have hb5 := below_of_drew hb4 | have hb5 := hb4)))
            all_goals
              rename_i hHeld
              clear hHeld
              go_wp2
              go_roundw
              case rel => exact ⟨jj + 1, by go_num, by omega, by rw [hsc.out]; rfl, Below.next hB3.out hB3.out.size hb5⟩
              case measure => simp [intOf]; omega
          · rw [hkn] at hsc
            go_quiet (fail)
            go_wp2
            go_roundw
            case rel => exact ⟨jj + 1, by go_num, by omega, by rw [hsc.out]; rfl, below_drewN hB3.out nq⟩
            case measure => simp [intOf]; omega
        · have hje : jj = L.length := by omega
          have hka := knB_all L n
          rw [← hje] at hka
          have hX4 := hX.out.below hBi.out
          have hk4 := hkX.below hBi.out
          have x0 : wr.cell? ⟨X, 0, none⟩ = some (.int .u8 (n : Int)) := hk4.cell 0
          have x1 : wr.cell? ⟨X, 1, none⟩ = some (.int .u8 (wt : Int)) := hk4.cell 1
          have hXl : X ≠ loc := Blk.ne_ty hk4 hX4.ring.blk (by decide)
          have hX1 : v1.ownBlock ≠ some X := Own.ne hX4.ring.nodes hk4 (by decide)
          have hX2 : v2.ownBlock ≠ some X := Own.ne hX4.ring.points hk4 (by decide)
          have hM4 := Lib.hid hX4
          have hcX := Lib.hid (fun (w' : World) (hb : Below wr.heap.size wr w') => (show w'.cell? ⟨X, 0, none⟩ = some (.int .u8 (n : Int)) ∧ w'.cell? ⟨X, 1, none⟩ = some (.int .u8 (wt : Int)) from ⟨(hk4.below hb).cell 0, (hk4.below hb).cell 1⟩))
          have hXs4 := hk4.lt
          have hK4 := Lib.hid hk4
          have hN := Lib.hid (fun w => name_any n hn w)
          have hge : ¬ jj < L.length := hlt2
          have Hje := Lib.hid hje
          clear hX4 hk4 hkX hX hBi hje
          by_cases hin : nmOf n ∈ L.map (·.1)
          · rw [decide_eq_true hin] at hka
            have hE : addE (nmOf n) (1 + (wt : Int) % 4) (ascOf L) = 4 := by
              unfold addE
              rw [if_neg (by rw [nmOf_len]; omega), if_neg (by omega), if_pos (hgd.out.mem.2 hin)]
            have hAd := Lib.hid (show ∀ (w' : World), Below wr.heap.size wr w' → Calls Try.prog 20 #[.pointer (some ⟨loc, 0, none⟩), .string (str (nmOf n)), .int .i64 (1 + (wt : Int) % 4)] w' fun e w'' => e = .returned (.iface 43 (.int .i64 4)) ∧ Below w'.heap.size w' w'' from fun w' hb => by
              have h := add_no w' w.heap.size loc v1 v2 (ascOf L) (ptsOf L) (nmOf n) (1 + (wt : Int) % 4) (hM4.out.ring.below hb) hgd.out.asc (by rw [hgd.out.len]; omega) (by rw [nmOf_len]; omega) (by rw [hE]; decide)
              rw [hE] at h
              exact h)
            have hIs : ∀ w, Calls Try.prog 19 #[.iface 43 (.int .i64 4), .int .i64 4] w fun e w' => e = .returned (.bool true) ∧ w' = w := fun w => is_any 4 4 w
            have hst : Hid (mkL (l.take (k + 1)) = L) := by show _ = _; rw [htk.out]; exact if_pos hin
            have HE := Lib.hid hE
            clear hE hin
            have wa : IntKind.i64.wrap ((wt : Int).tmod 4) = (wt : Int) % 4 := by rw [Int.tmod_eq_emod_of_nonneg (by omega)]; exact IntWalk.i64_in _ (by omega)
            have wb : IntKind.i64.wrap (1 + (wt : Int) % 4) = 1 + (wt : Int) % 4 := IntWalk.i64_in _ (by omega)
            go_upto_region 12 with fail
            go_region_held3 (fun w' => w'.cell? ⟨X, 0, none⟩ = some (.int .u8 (n : Int)) ∧ w'.cell? ⟨X, 1, none⟩ = some (.int .u8 (wt : Int))) (first | exact hcX.out _ (by assumption) | go_keep)
              (first
                | (go_at_call 17; refine (hN.out _).mono ?_; rintro e w4 ⟨rfl, hb4⟩; (first | have hb5 := below_of_drew hb4 | have hb5 := hb4))
                | (go_at_call 20; with_reducible refine (hAd.out _ (by first | exact hb5 | exact hb5.drew)).mono ?_; rintro e w6 ⟨rfl, hb6⟩; have hb7 := Below.next hb5 hb5.size (by first | exact hb6 | exact below_of_drew hb6)))
            all_goals
              rename_i hHeld
              have hB7 := Lib.hid hb7
              clear hHeld hb4 hb5 hb6 hb7 wa wb x0 x1
              go_wp2_with (go_at_call 19; refine (hIs _).mono ?_; rintro e w' ⟨rfl, rfl⟩)
              go_roundw
              case rel => exact ⟨k + 1, by go_num, by omega, v1, v2, by rw [hst.out]; exact hM4.out.below hB7.out⟩
              case measure => simp [intOf]; omega
          · rw [decide_eq_false hin] at hka
            have hAd := Lib.hid (show ∀ (w' : World), Below wr.heap.size wr w' → Calls Try.prog 20 #[.pointer (some ⟨loc, 0, none⟩), .string (str (nmOf n)), .int .i64 (1 + (wt : Int) % 4)] w' fun e w'' => e = .returned .nilIface ∧ Kp (fun b => b = loc ∨ v1.ownBlock = some b ∨ v2.ownBlock = some b) w' w'' ∧ ∃ v1' v2', Ring2 w'' w.heap.size loc v1' v2' (ascOf (L ++ [(nmOf n, 1 + wt % 4)])) (ptsOf (L ++ [(nmOf n, 1 + wt % 4)])) from fun w' hb => by
              have h := add_yes w' w.heap.size loc (1 + wt % 4) v1 v2 (ascOf L) (ptsOf L) (nmOf n) (hM4.out.ring.below hb) hgd.out.asc (by rw [hgd.out.len]; omega) (by have := hgd.out.plen; omega) (Nat.le_trans hM4.out.old.size hb.size) (by rw [nmOf_len]; omega) (by rw [nmOf_len]; omega) (by omega) (by omega) (fun h => hin (hgd.out.mem.1 h))
              rw [show ((1 + wt % 4 : Nat) : Int) = 1 + (wt : Int) % 4 by omega] at h
              rw [ascOf_snoc, ptsOf_snoc]
              exact h)
            have hIs : ∀ w, Calls Try.prog 19 #[.nilIface, .int .i64 4] w fun e w' => e = .returned (.bool false) ∧ w' = w := fun w => is_any 0 4 w
            have hst : Hid (mkL (l.take (k + 1)) = L ++ [(nmOf n, 1 + wt % 4)]) := by show _ = _; rw [htk.out]; exact if_neg hin
            clear hin
            have wa : IntKind.i64.wrap ((wt : Int).tmod 4) = (wt : Int) % 4 := by rw [Int.tmod_eq_emod_of_nonneg (by omega)]; exact IntWalk.i64_in _ (by omega)
            have wb : IntKind.i64.wrap (1 + (wt : Int) % 4) = 1 + (wt : Int) % 4 := IntWalk.i64_in _ (by omega)
            have hcK := Lib.hid (fun (w' w'' : World) (hb : Below wr.heap.size wr w') (hk : Kp (fun b => b = loc ∨ v1.ownBlock = some b ∨ v2.ownBlock = some b) w' w'') => (show Blk w'' X 59 #[.int .u8 (n : Int), .int .u8 (wt : Int)] from Blk.kp (F := fun b => b = loc ∨ v1.ownBlock = some b ∨ v2.ownBlock = some b) (hK4.out.below hb) (off3 hXl hX1 hX2) hk))
            go_upto_region 12 with fail
            go_region_held3 (fun w' => w'.cell? ⟨X, 0, none⟩ = some (.int .u8 (n : Int)) ∧ w'.cell? ⟨X, 1, none⟩ = some (.int .u8 (wt : Int))) (first | exact hcX.out _ (by assumption) | exact ⟨hkX8.cell 0, hkX8.cell 1⟩ | go_keep)
              (first
                | (go_at_call 17; refine (hN.out _).mono ?_; rintro e w4 ⟨rfl, hb4⟩; (first | have hb5 := below_of_drew hb4 | have hb5 := hb4))
                | (go_at_call 20; with_reducible refine (hAd.out _ (by first | exact hb5 | exact hb5.drew)).mono ?_; rintro e w6 ⟨rfl, hk6, v1', v2', hr6⟩; have hkX8 := hcK.out _ _ hb5 hk6))
            all_goals
              rename_i hHeld
              have hAdd := (hM4.out.below hb5).added hk6 hr6
              have hOL := Lib.hid hAdd.1
              have hBL := Lib.hid hAdd.2
              have hRL := Lib.hid hr6
              have x0 : w6.cell? ⟨X, 0, none⟩ = some (.int .u8 (n : Int)) := hkX8.cell 0
              have x1 : w6.cell? ⟨X, 1, none⟩ = some (.int .u8 (wt : Int)) := hkX8.cell 1
              have hXs6 := hkX8.lt
              have hcX6 := Lib.hid (fun (w' : World) (hb : Below w6.heap.size w6 w') => (show w'.cell? ⟨X, 0, none⟩ = some (.int .u8 (n : Int)) ∧ w'.cell? ⟨X, 1, none⟩ = some (.int .u8 (wt : Int)) from ⟨(hkX8.below hb).cell 0, (hkX8.below hb).cell 1⟩))
              have hB6 := hAdd.2.size
              clear hHeld hb4 hb5 hk6 hr6 hAd hcK hAdd
              go_upto_region 16 with (go_at_call 19; refine (hIs _).mono ?_; rintro e w' ⟨rfl, rfl⟩)
              go_region_held3 (fun w' => w'.cell? ⟨X, 0, none⟩ = some (.int .u8 (n : Int)) ∧ w'.cell? ⟨X, 1, none⟩ = some (.int .u8 (wt : Int))) (first | exact hcX6.out _ (by assumption) | exact ⟨hkX9.cell 0, hkX9.cell 1⟩ | go_keep)
                (first
                  | (go_at_call 17; refine (hN.out _).mono ?_; rintro e w7 ⟨rfl, hb7⟩; (first | have hb8 := below_of_drew hb7 | have hb8 := hb7))
                  | (refine stepR_blk 26 39 (.agg #[.string ⟨#[]⟩, .int .i64 0]) 2 24 _ _ (by rfl) (by rfl) Try.underlying26 infoNd rfl (by decide) (by decide) (B := w.heap.size) (n := L.length) (m := 1) (c := 1) (g := w7.heap.size) (news := #[.string (str (nmOf n)), .int .i64 (1 + (wt : Int) % 4)]) (by kernel_rfl) (own_below (own_below hOL.out hb8) ((Below.refl _ _).alloc (Nat.le_refl _) _)) (by kernel_rfl) (blk_new w7 _ _) rfl (nd_one _ _) (by omega) (Nat.le_trans hB6 (Nat.le_trans hb8.size (by simp))) ?_; intro v9 w9 hO9 hg9 hat9; have hkX9 := blk_grown ((hkX8.below hb8).alloc _) (own_below (own_below hOL.out hb8) ((Below.refl _ _).alloc (Nat.le_refl _) _)) (by decide) hg9))
              all_goals
                rename_i hHeld
                have hM9 := Lib.hid (MadeAt.pushed hOL.out hBL.out hRL.out hb8 hg9 (L' := L ++ [(nmOf n, 1 + wt % 4)]) (by rw [nvs_snoc, List.length_append, show ((1 + wt % 4 : Nat) : Int) = 1 + (wt : Int) % 4 by omega]; exact hO9))
                clear hHeld hb7 hb8 hO9 hg9 hat9 hkX9
                go_wp2
                go_roundw
                case rel => exact ⟨k + 1, by go_num, by omega, v1', v2', by rw [hst.out]; exact hM9⟩
                case measure => simp [intOf]; omega
    · have hke : k = l.length := by omega
      have hM' : Hid (MadeAt w loc (mkL l) u6 v1 v2 wr) := by
        have := hM.out
        rw [hke, List.take_length] at this
        exact this
      clear hM
      have Hke := Lib.hid hke
      clear hke
      go_wp2
      go_ret3
      exact ⟨loc, u6, v1, v2, rfl, hM'.out⟩
end Go.Proofs.Ytjjbeahdoblacaa
