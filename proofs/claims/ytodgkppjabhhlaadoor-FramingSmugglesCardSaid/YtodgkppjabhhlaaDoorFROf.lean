/-
  The frame by the fields, the document's.
-/
import Derived.Test.YtodgkppjabhhlaaDoorFOf
namespace Go.Proofs.YtodgkppjabhhlaaDoor
open Go.RowKit Syn Fr

theorem refNum_eq (x : Bytes) : ((number x).2 = 0 ∧ refNum x = ((number x).1 : Int)) ∨ ((number x).2 ≠ 0 ∧ refNum x = -1) := by
  unfold refNum
  by_cases h : (number x).2 = 0
  · left; exact ⟨h, if_pos h⟩
  · right; exact ⟨h, if_neg h⟩
theorem frameL_bad {x : Bytes} {r : List Bytes} (h : (number x).2 ≠ 0) : frameL (some (x :: r)) = ((0, 0), 30) := by
  rw [frameL_cons]
  split
  · unfold lengthOf; rw [if_neg h]
  · rfl
set_option maxRecDepth 100000 in
set_option maxHeartbeats 16000000 in
theorem rof_frame (L : List (Bytes × Bytes)) (v : Value) (w : World) (hF : Few L) (hR : Rd w 2 v L.length (prs L)) :
    Calls Tryd.prog 30 #[v] w fun e w' => e = .returned (.tuple #[frameV (frame 1 L), .int .i64 (frame 1 L).2]) ∧ Below w.heap.size w w' := by
  obtain ⟨G, hG⟩ : ∃ G, w.heap.size = G := ⟨_, rfl⟩
  have hE1 : ∀ w, Rd w 2 v L.length (prs L) → Calls Tryd.prog 42 #[v, .string ⟨#[99, 111, 110, 116, 101, 110, 116, 45, 108, 101, 110, 103, 116, 104]⟩] w fun e w' => ∃ o, e = .returned (.tuple #[o, .bool (elemsGo [] (allV L cl)).isSome]) ∧ PartsOut w' w.heap.size o (elemsGo [] (allV L cl)) ∧ Below w.heap.size w w' := fun w h => relements_any L cl v w hF (by decide) h
  have hE2 : ∀ w, Rd w 2 v L.length (prs L) → Calls Tryd.prog 42 #[v, .string ⟨#[116, 114, 97, 110, 115, 102, 101, 114, 45, 101, 110, 99, 111, 100, 105, 110, 103]⟩] w fun e w' => ∃ o, e = .returned (.tuple #[o, .bool (elemsGo [] (allV L te)).isSome]) ∧ PartsOut w' w.heap.size o (elemsGo [] (allV L te)) ∧ Below w.heap.size w w' := fun w h => relements_any L te v w hF (by decide) h
  have hA1 : ∀ w, Rd w 2 v L.length (prs L) → Calls Tryd.prog 43 #[v, .string ⟨#[99, 111, 110, 116, 101, 110, 116, 45, 108, 101, 110, 103, 116, 104]⟩] w fun e w' => ∃ o, e = .returned o ∧ Own w' w.heap.size 9 1 o (allV L cl).length (strs (allV L cl)) ∧ Below w.heap.size w w' := fun w h => rall_any L cl v w hF (by decide) h
  have hA2 : ∀ w, Rd w 2 v L.length (prs L) → Calls Tryd.prog 43 #[v, .string ⟨#[116, 114, 97, 110, 115, 102, 101, 114, 45, 101, 110, 99, 111, 100, 105, 110, 103]⟩] w fun e w' => ∃ o, e = .returned o ∧ Own w' w.heap.size 9 1 o (allV L te).length (strs (allV L te)) ∧ Below w.heap.size w w' := fun w h => rall_any L te v w hF (by decide) h
  have hes : ∀ name l, elemsGo [] (allV L name) = some l → (∀ x ∈ l, x.length ≤ 5000) ∧ l.length ≤ 600000 := fun name l h => ⟨elem_short hF h, elem_few hF h⟩
  have hff := frame_both (K := 1) (L := L)
  have hfc := frame_te (K := 1) (L := L)
  have hfn := frame_none (K := 1) (L := L)
  have hfl := frame_cl (K := 1) (L := L)
  have hs1 := hes cl
  have hs2 := hes te
  clear hes
  have hm1 : (allV L cl).length ≤ 100 := Nat.le_trans (allV_length L cl) hF.len
  have hm2 : (allV L te).length ≤ 100 := Nat.le_trans (allV_length L te) hF.len
  generalize frame 1 L = fr at *
  generalize allV L cl = V1 at *
  generalize allV L te = V2 at *
  obtain ⟨A, cap, rfl, hcap, -, -⟩ := id hR
  replace hE1 := Lib.hid hE1
  replace hE2 := Lib.hid hE2
  replace hA1 := Lib.hid hA1
  replace hA2 := Lib.hid hA2
  replace hs1 := Lib.hid hs1
  replace hs2 := Lib.hid hs2
  replace hR := Lib.hid (hR.below ((Below.refl w.heap.size w).alloc (Nat.le_refl _) (.cells #[.int .i64 0, .int .i64 0] 38)))
  go_enter Tryd.func30, Tryd.ntmps30
  go_wp2_with fail
  have hK := Blk.new w 38 #[.int .i64 0, .int .i64 0]
  rw [hG] at hK
  have hb0 := (Below.refl G w).alloc (by omega) (.cells #[.int .i64 0, .int .i64 0] 38)
  generalize w.alloc (.cells #[.int .i64 0, .int .i64 0] 38) = w0 at *
  refine (hE1.out _ hR.out).mono ?_
  rintro e w1 ⟨o1, rfl, hv1, hb1⟩
  have hR1 := Lib.hid (hR.out.below hb1)
  have hb01 := Lib.hid (hb0.trans (hb1.mono (by have := hK.lt; omega)))
  have hK1 := Lib.hid (hK.below hb1)
  replace hv1 := Lib.hid hv1
  clear hb1 hK hb0
  go_wp2_with fail
  refine (hE2.out _ hR1.out).mono ?_
  rintro e w2 ⟨o2, rfl, hv2, hb2⟩
  have hR2 := Lib.hid (hR1.out.below hb2)
  have hb02 := Lib.hid (hb01.out.trans (hb2.mono (by have := hK1.out.lt; omega)))
  have hK2 := Lib.hid (hK1.out.below hb2)
  have hV1 := Lib.hid (fun l (h : elemsGo [] V1 = some l) => (Rd.own (h ▸ hv1.out : PartsOut w1 w0.heap.size o1 (some l)) : Rd w1 1 o1 l.length (strs l)).below hb2)
  have hV2 := Lib.hid (fun l (h : elemsGo [] V2 = some l) => (Rd.own (h ▸ hv2 : PartsOut w2 w1.heap.size o2 (some l)) : Rd w2 1 o2 l.length (strs l)))
  clear hb2 hK1 hb01 hv1 hR hR1 hv2
  go_wp2_with fail
  refine (hA1.out _ hR2.out).mono ?_
  rintro e w3 ⟨o3, rfl, hv3, hb3⟩
  have hR3 := Lib.hid (hR2.out.below hb3)
  have hb03 := Lib.hid (hb02.out.trans (hb3.mono (by have := hK2.out.lt; omega)))
  have hK3 := Lib.hid (hK2.out.below hb3)
  obtain ⟨A3, q3, rfl, -, -, -⟩ : Rd w3 1 o3 V1.length (strs V1) := Rd.own hv3
  have hV13 := Lib.hid (fun l (h : elemsGo [] V1 = some l) => (hV1.out l h).below hb3)
  have hV23 := Lib.hid (fun l (h : elemsGo [] V2 = some l) => (hV2.out l h).below hb3)
  clear hb3 hb02 hK2 hV1 hV2 hR2 hv3
  go_wp2_with fail
  refine (hA2.out _ hR3.out).mono ?_
  rintro e w4 ⟨o4, rfl, hv4, hb4⟩
  have hb04 := Lib.hid (hb03.out.trans (hb4.mono (by have := hK3.out.lt; omega)))
  have hK4 := hK3.out.below hb4
  have c0 : w4.cell? ⟨G, 0, none⟩ = some (.int .i64 0) := hK4.cell 0
  have c1 : w4.cell? ⟨G, 1, none⟩ = some (.int .i64 0) := hK4.cell 1
  have f0 := hK4.frozen 0
  have f1 := hK4.frozen 1
  replace hK4 := Lib.hid hK4
  obtain ⟨A4, q4, rfl, -, -, -⟩ : Rd w4 1 o4 V2.length (strs V2) := Rd.own hv4
  have hV1 := Lib.hid (fun l (h : elemsGo [] V1 = some l) => (hV13.out l h).below hb4)
  have hV2 := Lib.hid (fun l (h : elemsGo [] V2 = some l) => (hV23.out l h).below hb4)
  clear hb4 hb03 hK3 hV13 hV23 hR3 hv4
  by_cases n1 : 0 < V1.length
  · have hd1 : decide ((0 : Int) < (V1.length : Int)) = true := by rw [decide_eq_true_iff]; omega
    by_cases n2 : 0 < V2.length
    · have hd2 : decide ((0 : Int) < (V2.length : Int)) = true := by rw [decide_eq_true_iff]; omega
      have hf := Lib.hid (hff n1 n2)
      clear hff hfc hfn hfl
      go_wp2
      exact ret_blk rfl rfl rfl (hK4.out.two _ _) Tryd.underlying38 rfl (by kernel_rfl) ⟨by rw [hf.out]; rfl, by first | exact two_below hG hb04.out _ _ | exact two_below' hb04.out _ _⟩
    · have hd2 : decide ((0 : Int) < (V2.length : Int)) = false := by rw [decide_eq_false_iff_not]; omega
      have hf := Lib.hid (hfl n1 n2)
      clear hff hfc hfn hfl
      cases hl : elemsGo [] V1 with
      | none =>
        have hf2 : Hid (fr = ((0, 0), 30)) := Lib.hid (by rw [hf.out, hl]; rfl)
        clear hl
        go_wp2
        exact ret_blk rfl rfl rfl (hK4.out.two _ _) Tryd.underlying38 rfl (by kernel_rfl) ⟨by rw [hf2.out]; rfl, by first | exact two_below hG hb04.out _ _ | exact two_below' hb04.out _ _⟩
      | some l =>
        have hRl := hV1.out l hl
        obtain ⟨hsl, hcn⟩ := hs1.out l hl
        cases l with
        | nil =>
          obtain ⟨A1, q1, rfl, -, -, -⟩ := hRl
          have hf2 : Hid (fr = ((0, 0), 30)) := Lib.hid (by rw [hf.out, hl]; rfl)
          clear hl
          go_wp2
          exact ret_blk rfl rfl rfl (hK4.out.two _ _) Tryd.underlying38 rfl (by kernel_rfl) ⟨by rw [hf2.out]; rfl, by first | exact two_below hG hb04.out _ _ | exact two_below' hb04.out _ _⟩
        | cons x r =>
          have hf2 : Hid (fr = frameL (some (x :: r))) := Lib.hid (by rw [hf.out, hl])
          have hx5 := hsl x (by simp)
          have hN : ∀ w, Calls Tryd.prog 32 #[.string (str x)] w fun e w' => e = .returned (.int .i64 (refNum x)) ∧ w' = w := fun w => refnum_any (str x) w (by rw [str_size]; unfold maxLen; omega)
          replace hN := Lib.hid hN
          obtain ⟨l, hlx⟩ : ∃ l, l = x :: r := ⟨_, rfl⟩
          have hl0 : l[0]? = some x := by rw [hlx]; rfl
          have hlp : 0 < l.length := by rw [hlx]; simp
          have hfa : Hid (fr = if l.all (· == x) then lengthOf x else ((0, 0), 30)) := Lib.hid (by rw [hf2.out, frameL_cons, hlx])
          rw [← hlx] at hRl hcn
          clear hl hsl hlx hf
          obtain ⟨A1, q1, rfl, hq1, -, hcell⟩ := hRl
          obtain ⟨b1, o3, rfl, -, x1⟩ := hcell hlp
          have d0 : w4.cell? ⟨b1, o3, none⟩ = some (.string (str x)) := by
            have := x1 0 (.string (str x)) (by unfold strs; rw [List.getElem?_map, hl0]; rfl)
            exact this
          have hlz : ((l.length : Int) == 0) = false := beq_false_of_ne (by omega)
          replace x1 := Lib.hid x1
          clear hcell hl0
          rcases refNum_eq x with ⟨h0, hrn⟩ | ⟨h0, hrn⟩
          · have hlo : lengthOf x = if 65536 < (number x).1 then ((0, 0), 5) else ((2, (number x).1), 0) := by unfold lengthOf; rw [if_pos h0]
            rw [hlo] at hfa
            rw [hrn] at hN
            generalize (number x).1 = n at *
            have hnn : decide ((n : Int) < 0) = false := by rw [decide_eq_false_iff_not]; omega
            clear h0 hrn hlo hf2
            go_wp2_with fail
            refine (hN.out _).mono ?_
            rintro e w5 ⟨rfl, rfl⟩
            go_wp2
            go_loopw [10] (fun i wr => ∃ k m : Nat, i = .int .i64 (k : Int) ∧ k ≤ l.length ∧ Hid ((l.take k).all (· == x) = true) ∧ wr = w5.drewN m) (fun i _ => l.length - (intOf i).toNat)
            case atStart => exact ⟨0, 0, rfl, by omega, rfl, rfl⟩
            case round =>
              obtain ⟨k, m, rfl, hk, ha, hw⟩ := hrel
              have hKr : Hid (Blk wr G 38 #[.int .i64 0, .int .i64 0]) := Lib.hid (by rw [hw]; exact hK4.out.drewN m)
              have hbr : Hid (Below G w wr) := Lib.hid (by rw [hw]; exact below_drewN (by first | exact hb04.out | (have := hb04.out; rwa [hG] at this)) m)
              have e0 : wr.cell? ⟨G, 0, none⟩ = some (.int .i64 0) := hKr.out.cell 0
              have e1 : wr.cell? ⟨G, 1, none⟩ = some (.int .i64 0) := hKr.out.cell 1
              have g0 := hKr.out.frozen 0
              have g1 := hKr.out.frozen 1
              have dr0 : wr.cell? ⟨b1, o3, none⟩ = some (.string (str x)) := by rw [hw]; exact d0
              by_cases hlt : k < l.length
              · have dr1 : wr.cell? ⟨b1, o3 + k, none⟩ = some (.string (str l[k])) := by rw [hw]; exact x1.out k _ (strs_at hlt)
                replace hw := Lib.hid hw
                by_cases hx : l[k] = x
                · have hn := Lib.hid (all_eq_take hlt ha.out hx)
                  have hq : ((str l[k]).toList == (str x).toList) = true := str_eq hx
                  replace hx := Lib.hid hx
                  go_wp2_with fail
                  go_quiet (fail)
                  go_wp2
                  go_roundw
                  case rel => exact ⟨k + 1, m + nq, by go_num, by omega, hn, by rw [hw.out, World.drewN_drewN]⟩
                  case measure => simp [intOf]; omega
                · have hf3 : Hid (fr = ((0, 0), 30)) := Lib.hid (by rw [hfa.out, not_all hlt hx]; rfl)
                  have hq : ((str l[k]).toList == (str x).toList) = false := str_ne hx
                  replace hx := Lib.hid hx
                  go_wp2_with fail
                  go_quiet (fail)
                  go_wp2
                  exact ret_blk rfl rfl rfl ((hKr.out.drewN nq).two _ _) Tryd.underlying38 rfl (by kernel_rfl) ⟨by rw [hf3.out]; rfl, by first | exact two_below hG (below_drewN hbr.out nq) _ _ | exact two_below' (below_drewN hbr.out nq) _ _⟩
              · obtain rfl : k = l.length := by omega
                have hal := ha.out
                rw [List.take_length] at hal
                have hf3 := hfa.out
                rw [if_pos hal] at hf3
                clear hal hw
                by_cases hbig : 65536 < n
                · rw [if_pos hbig] at hf3
                  replace hf3 := Lib.hid hf3
                  go_wp2_with fail
                  refine (hN.out _).mono ?_
                  rintro e w6 ⟨rfl, rfl⟩
                  go_wp2
                  exact ret_blk rfl rfl rfl (hKr.out.two _ _) Tryd.underlying38 rfl (by kernel_rfl) ⟨by rw [hf3.out]; rfl, by first | exact two_below hG hbr.out _ _ | exact two_below' hbr.out _ _⟩
                · rw [if_neg hbig] at hf3
                  replace hf3 := Lib.hid hf3
                  go_wp2_with fail
                  refine (hN.out _).mono ?_
                  rintro e w6 ⟨rfl, rfl⟩
                  go_wp2_with fail
                  refine (hN.out _).mono ?_
                  rintro e w7 ⟨rfl, rfl⟩
                  go_wp2
                  exact ret_blk rfl rfl rfl (hKr.out.two _ _) Tryd.underlying38 rfl (by kernel_rfl) ⟨by rw [hf3.out]; rfl, by first | exact two_below hG hbr.out _ _ | exact two_below' hbr.out _ _⟩
          · have hf3 : Hid (fr = ((0, 0), 30)) := Lib.hid (by rw [hf2.out, frameL_bad h0])
            rw [hrn] at hN
            clear h0 hrn hf2 hfa
            go_wp2_with fail
            refine (hN.out _).mono ?_
            rintro e w5 ⟨rfl, rfl⟩
            go_wp2
            exact ret_blk rfl rfl rfl (hK4.out.two _ _) Tryd.underlying38 rfl (by kernel_rfl) ⟨by rw [hf3.out]; rfl, by first | exact two_below hG hb04.out _ _ | exact two_below' hb04.out _ _⟩
  · have hd1 : decide ((0 : Int) < (V1.length : Int)) = false := by rw [decide_eq_false_iff_not]; omega
    by_cases n2 : 0 < V2.length
    · have hd2 : decide ((0 : Int) < (V2.length : Int)) = true := by rw [decide_eq_true_iff]; omega
      have hf := Lib.hid (hfc n1 n2)
      clear hff hfc hfn hfl
      cases hl : elemsGo [] V2 with
      | none =>
        have hf2 : Hid (fr = ((0, 0), 32)) := Lib.hid (by rw [hf.out, hl]; rfl)
        clear hl
        go_wp2
        exact ret_blk rfl rfl rfl (hK4.out.two _ _) Tryd.underlying38 rfl (by kernel_rfl) ⟨by rw [hf2.out]; rfl, by first | exact two_below hG hb04.out _ _ | exact two_below' hb04.out _ _⟩
      | some l =>
        have hRl := hV2.out l hl
        obtain ⟨hsl, hcn⟩ := hs2.out l hl
        by_cases h1 : l.length = 1
        · obtain ⟨c, rfl⟩ := List.length_eq_one_iff.1 h1
          have hc5 := hsl c (by simp)
          obtain ⟨A1, q1, rfl, hq1, -, hcell⟩ := hRl
          obtain ⟨b1, o3, rfl, -, x1⟩ := hcell (by simp)
          have d0 : w4.cell? ⟨b1, o3, none⟩ = some (.string (str c)) := x1 0 _ rfl
          have hL : ∀ w, Calls Tryd.prog 33 #[.string (str c)] w fun e w' => e = .returned (.string (str (Syn.lower c))) ∧ Below w.heap.size w w' := fun w => rlower_any (str c) w (by rw [str_size]; omega)
          have hf2 : fr = if Syn.lower c = ch then ((3, 0), 0) else ((0, 0), 32) := by rw [hf.out, hl]; rfl
          replace hL := Lib.hid hL
          clear hl hf hcell x1 hsl
          by_cases hch : Syn.lower c = ch
          · rw [if_pos hch] at hf2
            have hq : ((str (Syn.lower c)).toList == [99, 104, 117, 110, 107, 101, 100]) = true := by rw [str_toList, hch]; decide
            replace hch := Lib.hid hch
            replace hf2 := Lib.hid hf2
            go_wp2_with fail
            refine (hL.out _).mono ?_
            rintro e w5 ⟨rfl, hb5⟩
            have hb05 := Lib.hid (hb04.out.trans (hb5.mono (by have := hK4.out.lt; omega)))
            have hK5 := hK4.out.below hb5
            have e0 : w5.cell? ⟨G, 0, none⟩ = some (.int .i64 0) := hK5.cell 0
            have e1 : w5.cell? ⟨G, 1, none⟩ = some (.int .i64 0) := hK5.cell 1
            have g0 := hK5.frozen 0
            have g1 := hK5.frozen 1
            replace hK5 := Lib.hid hK5
            clear hb5
            go_wp2
            exact ret_blk rfl rfl rfl (hK5.out.two _ _) Tryd.underlying38 rfl (by kernel_rfl) ⟨by rw [hf2.out]; rfl, by first | exact two_below hG hb05.out _ _ | exact two_below' hb05.out _ _⟩
          · rw [if_neg hch] at hf2
            have hq : ((str (Syn.lower c)).toList == [99, 104, 117, 110, 107, 101, 100]) = false := by rw [str_toList, beq_eq_false_iff_ne]; exact hch
            replace hch := Lib.hid hch
            replace hf2 := Lib.hid hf2
            go_wp2_with fail
            refine (hL.out _).mono ?_
            rintro e w5 ⟨rfl, hb5⟩
            have hb05 := Lib.hid (hb04.out.trans (hb5.mono (by have := hK4.out.lt; omega)))
            have hK5 := hK4.out.below hb5
            have e0 : w5.cell? ⟨G, 0, none⟩ = some (.int .i64 0) := hK5.cell 0
            have e1 : w5.cell? ⟨G, 1, none⟩ = some (.int .i64 0) := hK5.cell 1
            have g0 := hK5.frozen 0
            have g1 := hK5.frozen 1
            replace hK5 := Lib.hid hK5
            clear hb5
            go_wp2
            exact ret_blk rfl rfl rfl (hK5.out.two _ _) Tryd.underlying38 rfl (by kernel_rfl) ⟨by rw [hf2.out]; rfl, by first | exact two_below hG hb05.out _ _ | exact two_below' hb05.out _ _⟩
        · have hf2 : Hid (fr = ((0, 0), 32)) := Lib.hid (by rw [hf.out, hl, frameC_long h1])
          have hb1 : ((l.length : Int) == 1) = false := beq_false_of_ne (by omega)
          have hb2 : ((l.length : Int) != 1) = true := by rw [bne, hb1]; rfl
          obtain ⟨A1, q1, rfl, hq1, -, -⟩ := hRl
          clear hl hsl
          go_wp2
          exact ret_blk rfl rfl rfl (hK4.out.two _ _) Tryd.underlying38 rfl (by kernel_rfl) ⟨by rw [hf2.out]; rfl, by first | exact two_below hG hb04.out _ _ | exact two_below' hb04.out _ _⟩
    · have hd2 : decide ((0 : Int) < (V2.length : Int)) = false := by rw [decide_eq_false_iff_not]; omega
      have hf := Lib.hid (hfn n1 n2)
      clear hff hfc hfn hfl
      go_wp2
      exact ret_blk rfl rfl rfl (hK4.out.two _ _) Tryd.underlying38 rfl (by kernel_rfl) ⟨by rw [hf.out]; rfl, by first | exact two_below hG hb04.out _ _ | exact two_below' hb04.out _ _⟩
end Go.Proofs.YtodgkppjabhhlaaDoor
