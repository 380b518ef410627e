/-
  Layer 5: the walk of HeadBack.
-/
import Derived.Test.YtemlnmelicnneaaDoorHBackP
import Derived.Test.YtemlnmelicnneaaDoorHLower
import Derived.Test.YtemlnmelicnneaaDoorHAns
import Derived.Deep.DeepCutAuto
namespace Go.Proofs.YtemlnmelicnneaaDoor
open Go.RowKit Syn Hd Ck

namespace Hd
theorem ownM_empty (w : World) : OwnM (w.alloc (.cells #[] 5)) w.heap.size (.slice (some ⟨w.heap.size, 0, none⟩) 0 0) [] :=
  .inr ⟨w.heap.size, 0, rfl, Nat.le_refl _, by rw [alloc_size']; omega, Nat.le_refl _, fun j h => absurd h (by simp), fun j h1 h2 => absurd h2 (by omega)⟩
theorem ownM_form {w : World} {B : Nat} {v : Value} {T : List UInt8} (h : OwnM w B v T) : ∃ A c, v = .slice A T.length c ∧ (A = none → c = 0) ∧ Rd w 1 (.slice A T.length c) T.length (u8s T) := by
  have hr := h.rd
  rcases h with ⟨rfl, rfl⟩ | ⟨g, cap, rfl, -⟩
  · exact ⟨none, 0, rfl, fun _ => rfl, hr⟩
  · exact ⟨_, cap, rfl, fun e => (by cases e), hr⟩
theorem can_lwr {l : List (List UInt8 × List UInt8)} (h : okCs l = true) : can l = l.map lwr := by
  unfold can lwr
  refine List.map_congr_left fun p hp => ?_
  have := ((okC_iff p.1 p.2).1 (List.all_eq_true.1 h p hp)).1
  rw [(nmE_tok this).2.2]
theorem wrE_ok {s : Int} {l : List (List UInt8 × List UInt8)} (h : wrE s l = 0) : okCs l = true ∧ (wrB s l).length ≤ 9000 := by
  have hb := resp_back [] h
  unfold wrE at h
  split at h
  · cases h
  · split at h
    · cases h
    · split at h
      · next h1 h2 h3 =>
        refine ⟨h3, ?_⟩
        have hB : wrB s l = headB (startB s) (can l) := by unfold wrB wrE; rw [if_neg h1, if_neg h2, if_pos h3, if_pos rfl]
        unfold largeB at h1
        rw [Bool.or_eq_true, decide_eq_true_eq, decide_eq_true_eq] at h1
        have e1 : (startB s).length = 13 + (rsn s).length := by
          unfold startB
          rw [List.length_append, List.length_append, List.length_append]
          rfl
        have e2 : (lns (can l)).length = (lns l).length := by rw [← lnsR_ok l h3, lnsR_len]
        rw [hB]
        unfold headB
        rw [List.length_append, List.length_append, List.length_append, e1, e2]
        show 13 + _ + 2 + _ + 2 ≤ _
        omega
      · cases h
theorem back_S {w8 w' : World} {G g : Nat} {t1 t2 : TypeId} {u0 u1 x0 x1 : Value} (hK : Hid (Blk w8 G t1 #[u0, u1])) (hL : Hid (Blk w8 g t2 #[x0, x1])) (hb : Below w8.heap.size w8 w') :
    Below w8.heap.size w8 w' ∧ w'.cell? ⟨G, 0, none⟩ = some u0 ∧ w'.cell? ⟨G, 1, none⟩ = some u1 ∧ w'.cell? ⟨g, 0, none⟩ = some x0 ∧ w'.cell? ⟨g, 1, none⟩ = some x1 :=
  ⟨hb, (hK.out.below hb).cell 0, (hK.out.below hb).cell 1, (hL.out.below hb).cell 0, (hL.out.below hb).cell 1⟩
end Hd
set_option maxRecDepth 100000 in
set_option maxHeartbeats 16000000 in
theorem back_walk (l : List (List UInt8 × List UInt8)) (z : Int) (v : Value) (rst : List UInt8) (w : World) (hz1 : -9223372036854775808 ≤ z) (hz2 : z ≤ 9223372036854775807) (hR : Rd w 2 v l.length (prs l)) (hbig : ∀ p ∈ l, p.1.length ≤ 140737488355328 ∧ p.2.length ≤ 140737488355328) (hlm : l.length ≤ 140737488355328) (hT : Tab10 w) (hM : MaxL w) :
    Calls Tryd.prog 5 #[.agg #[.int .i64 z, v], .string (str rst)] w fun e w' => e = .returned (.bool true) ∧ Below w.heap.size w w' := by
  obtain ⟨A, cap, rfl, hcap, -, -⟩ := id hR
  obtain ⟨G, hG⟩ : ∃ G, w.heap.size = G := ⟨_, rfl⟩
  have hFt := Lib.hid (fun w (h : Rd w 2 (.slice A l.length cap) l.length (prs l)) => hfits_any l _ w h hbig hlm)
  replace hR := Lib.hid hR
  replace hbig := Lib.hid hbig
  have hAw := Lib.hid (fun w' (hb : Below w.heap.size w w') => hawake_any w' (hT.below hb))
  replace hT := Lib.hid hT
  replace hM := Lib.hid hM
  have zr := str_size rst
  obtain ⟨sr, hsr⟩ : ∃ s, str rst = s := ⟨_, rfl⟩
  rw [hsr] at zr ⊢
  replace hsr := Lib.hid hsr
  go_enter Tryd.func5, Tryd.ntmps5
  go_wp2_with fail
  have hA := Blk.new w 24 #[.int .i64 z, .slice A l.length cap]
  have hB0 := (Below.refl w.heap.size w).alloc (Nat.le_refl _) (.cells #[.int .i64 z, .slice A l.length cap] 24)
  rw [hG] at hA
  generalize w.alloc (.cells #[.int .i64 z, .slice A l.length cap] 24) = w0 at *
  refine (hAw.out _ hB0).mono ?_
  rintro e w1 ⟨rfl, hb1⟩
  have hA1 := hA.below hb1
  have hB1 := Lib.hid (Below.next hB0 hB0.size hb1)
  have hR1 := Lib.hid (hR.out.below hB1.out)
  have c0 : w1.cell? ⟨G, 0, none⟩ = some (.int .i64 z) := hA1.cell 0
  have c1 : w1.cell? ⟨G, 1, none⟩ = some (.slice A l.length cap) := hA1.cell 1
  replace hA1 := Lib.hid hA1
  clear hb1 hA hB0
  go_wp2_with fail
  refine (hFt.out _ hR1.out).mono ?_
  rintro e w2 ⟨b, rfl, hfew, nd, rfl⟩
  have hB1n := Lib.hid (below_drewN hB1.out nd)
  cases b
  · clear hfew
    go_wp2_with fail
    refine (hAw.out _ hB1n.out).mono ?_
    rintro e w3 ⟨rfl, hb3⟩
    have hB3 := Lib.hid (Below.next hB1n.out hB1n.out.size hb3)
    clear hb3
    go_wp2
    go_ret
    exact ⟨rfl, hB3.out⟩
  · obtain ⟨h80, hbk⟩ := hfew rfl
    clear hfew
    by_cases hrl : 20000 < rst.length
    · go_wp2_with fail
      refine (hAw.out _ hB1n.out).mono ?_
      rintro e w3 ⟨rfl, hb3⟩
      have hB3 := Lib.hid (Below.next hB1n.out hB1n.out.size hb3)
      clear hb3
      go_wp2
      go_ret
      exact ⟨rfl, hB3.out⟩
    · have hs : ∀ p ∈ l, p.1.length ≤ 1000000 ∧ p.2.length ≤ 1000000 := fun p hp => by have := bulk_mem hp; omega
      have hRs := Lib.hid (fun w h => response_any l z (.slice A l.length cap) w (by omega) h)
      have hWr := Lib.hid (fun v w h hT => wresp_any z hz1 hz2 l v w h hs (by omega) hT)
      have hLo := Lib.hid (fun w h => hlower_any l (.slice A l.length cap) w hs (by omega) h)
      replace hs := Lib.hid hs
      by_cases hz : wrE z l = 0
      · obtain ⟨hok, hwl⟩ := wrE_ok hz
        obtain ⟨b1, b2, b3, b4⟩ := resp_back rst hz
        have hcl := Lib.hid (can_lwr hok)
        have hwb0 : wrE z l = 0 → Hid (wrE z l = 0) := Lib.hid
        generalize hwb : wrB z l = wb at *
        replace hok := Lib.hid hok
        go_wp2_with fail
        refine (hRs.out _ (hR1.out.drewN nd)).mono ?_
        rintro e w3 ⟨o, rfl, hR3, hb3⟩
        obtain ⟨B, cap', rfl, -, -, -⟩ := id hR3
        have hb3' : Below w1.heap.size w1 w3 := ⟨hb3.os, hb3.tape, hb3.output, hb3.size, hb3.block⟩
        have hA3 := Lib.hid (hA1.out.below hb3')
        have hB3 := Lib.hid (Below.next hB1.out hB1.out.size hb3')
        clear hb3 hb3' c0 c1
        have hx := hWr.out _ _ hR3 (hT.out.below hB3.out)
        unfold WrR at hx
        rw [hz, hwb, errV_zero] at hx
        replace hz := Lib.hid hz
        replace hwb := Lib.hid hwb
        replace hx := Lib.hid hx
        clear hR3 hwb0
        go_wp2_with fail
        refine hx.out.mono ?_
        rintro e w4 ⟨o4, rfl, ho4, hb4⟩
        obtain ⟨A4, c4, rfl, hc4, hr4⟩ := ownM_form ho4
        have hA4 := Lib.hid (hA3.out.below hb4)
        have hB4 := Lib.hid (Below.next hB3.out hB3.out.size hb4)
        clear hb4 hx hc4
        replace ho4 := Lib.hid ho4
        have hE5 := Lib.hid (ownM_empty w4)
        have hb5 := Lib.hid ((Below.refl w4.heap.size w4).alloc (Nat.le_refl _) (.cells #[] 5))
        have hr5 := Lib.hid (hr4.below hb5.out)
        have hsz5 : w4.heap.size ≤ (w4.alloc (.cells #[] 5)).heap.size := hb5.out.size
        clear hr4
        replace hsz5 := Lib.hid hsz5
        go_wp2_with (at_builtin; first
          | (refine step_pushM _ _ rfl rfl wb hE5.out rfl rfl rfl hr5.out (by simp; omega) hsz5.out ?_; intro v5 w5 ho5 hb5'; have hb6 := Lib.hid (hb5.out.trans hb5'); have hs6 := Lib.hid hb6.out.size; replace ho5 := Lib.hid ho5; clear hb5')
          | (refine step_pushSM _ _ rfl rfl rst ho5.out rfl rfl hsr.out.symm (by simp; omega) hs6.out ?_; intro v6 w6 ho6 hb6'; have hb7 := Lib.hid (hb6.out.trans hb6'); obtain ⟨T, hTT⟩ : ∃ T, wb ++ rst = T := ⟨_, rfl⟩; rw [List.nil_append, hTT] at ho6; obtain ⟨A6, c6, rfl, hc6, hr6⟩ := ownM_form ho6; clear hb6' ho6))
        rw [hTT] at b1 b2 b3 b4
        have hTl : T.length ≤ 1000000 := by rw [← hTT, List.length_append]; omega
        have hB6 := Lib.hid (Below.next hB4.out hB4.out.size hb7.out)
        have hA6 := Lib.hid (hA4.out.below hb7.out)
        have hRd := Lib.hid (rdresp_any T A6 c6 w6 hr6 hTl hc6 (hM.out.below hB6.out))
        unfold RrR at hRd
        rw [b1, b2, b3, b4, hcl.out] at hRd
        replace hTT := Lib.hid hTT
        clear b1 b2 b3 b4 hr6 hc6 ho4 ho5 hE5 hb5 hr5 hsz5 hs6 hb6 hA3 hA4 hRs hWr
        refine hRd.out.mono ?_
        rintro e w7 ⟨h7, hb8⟩
        obtain ⟨o7, rfl, hr7⟩ : ∃ o, e = .returned (.tuple #[.agg #[.int .i64 z, o], .int .i64 (wb.length : Int), .nilIface]) ∧ Rd w7 2 o l.length (prs (l.map lwr)) := by
          rcases h7 with ⟨h7, -⟩ | ⟨-, o, h7, h8⟩
          · exact absurd rfl h7
          · rw [List.length_map] at h8; exact ⟨o, h7, h8⟩
        obtain ⟨A7, c7, rfl, -, -, -⟩ := id hr7
        have hB7 := Below.next hB6.out hB6.out.size hb8
        have hA7 := hA6.out.below hb8
        have hL8 := Blk.new w7 35 #[.int .i64 z, .slice A7 l.length c7]
        have hK8 := hA7.alloc (.cells #[.int .i64 z, .slice A7 l.length c7] 35)
        have hB8 := hB7.alloc hB7.size (.cells #[.int .i64 z, .slice A7 l.length c7] 35)
        have hr8 := hr7.below ((Below.refl w7.heap.size w7).alloc (Nat.le_refl _) (.cells #[.int .i64 z, .slice A7 l.length c7] 35))
        clear h7 hb8 hRd hr7 hB7 hA7
        replace hL8 := Lib.hid hL8
        replace hK8 := Lib.hid hK8
        replace hB8 := Lib.hid hB8
        replace hr8 := Lib.hid hr8
        go_upto_region 7 with (fail)
        generalize hg7 : w7.heap.size = g7 at *
        generalize w7.alloc (.cells #[.int .i64 z, .slice A7 l.length c7] 35) = w8 at *
        replace hg7 := Lib.hid hg7
        have hst := back_S hK8 hL8 (Below.refl w8.heap.size w8)
        have hRl := Lib.hid (fun w' (hb : Below w8.heap.size w8 w') => hR.out.below (Below.next hB8.out hB8.out.size hb))
        have hR7 := Lib.hid (fun w' (hb : Below w8.heap.size w8 w') => hr8.out.below hb)
        have hAre := Lib.hid (fun w' ol (h1 : Rd w' 2 (.slice A7 l.length c7) l.length (prs (l.map lwr))) (h2 : Rd w' 2 ol l.length (prs (l.map lwr))) => are_any (l1 := l.map lwr) (l2 := l.map lwr) (v1 := .slice A7 l.length c7) (v2 := ol) w' (by rw [List.length_map]; exact h1) (by rw [List.length_map]; exact h2) rfl (by rw [List.length_map]; omega))
        go_region_held3 (fun w' => Below w8.heap.size w8 w' ∧ w'.cell? ⟨G, 0, none⟩ = some (.int .i64 z) ∧ w'.cell? ⟨G, 1, none⟩ = some (.slice A l.length cap) ∧ w'.cell? ⟨g7, 0, none⟩ = some (.int .i64 z) ∧ w'.cell? ⟨g7, 1, none⟩ = some (.slice A7 l.length c7))
          (first | exact hst | assumption | exact back_S hK8 hL8 (Below.refl _ _).drew | exact back_S hK8 hL8 hb10 | exact back_S hK8 hL8 hb10.drew | exact back_S hK8 hL8 (below_drewN hb10 _) | exact back_S hK8 hL8 (below_drewN hb10 _).drew | exact back_S hK8 hL8 (below_drewN hb10.drew _))
          (first
            | (go_at_call 22; refine (hLo.out _ (hRl.out _ (And.left (by assumption)))).mono ?_; rintro e w9 ⟨o9, rfl, ho9, hb9⟩; (first | have hb10 : Below w8.heap.size w8 w9 := hb9 | have hb10 : Below w8.heap.size w8 w9 := below_of_drew hb9); obtain ⟨A9, c9, rfl, -, -, -⟩ := Rd.own ho9)
            | (go_at_call 21; refine (hAre.out _ _ (hR7.out _ (And.left (by assumption))) (by first | exact Rd.own ho9 | exact (Rd.own ho9).drewN 1)).mono ?_; rintro e w11 ⟨rfl, n11, rfl⟩))
        all_goals
          go_wp2
          go_ret
          exact ⟨rfl, Below.next hB8.out hB8.out.size (And.left (by assumption))⟩
      · go_wp2_with fail
        refine (hRs.out _ (hR1.out.drewN nd)).mono ?_
        rintro e w3 ⟨o, rfl, hR3, hb3⟩
        obtain ⟨B, cap', rfl, -, -, -⟩ := id hR3
        have hb3' : Below w1.heap.size w1 w3 := ⟨hb3.os, hb3.tape, hb3.output, hb3.size, hb3.block⟩
        have hB3 := Lib.hid (Below.next hB1.out hB1.out.size hb3')
        clear hb3 hb3' c0 c1
        have hx := hWr.out _ _ hR3 (hT.out.below hB3.out)
        unfold WrR at hx
        rw [herr_ne hz, show wrB z l = [] from by unfold wrB; rw [if_neg hz]] at hx
        generalize wrE z l = en at *
        replace hz := Lib.hid hz
        replace hx := Lib.hid hx
        clear hR3
        go_wp2_with fail
        refine hx.out.mono ?_
        rintro e w4 ⟨o4, rfl, ho4, hb4⟩
        obtain ⟨A4, c4, rfl, -, -⟩ := ownM_form ho4
        have hB4 := Lib.hid (Below.next hB3.out hB3.out.size hb4)
        clear hb4 hx ho4
        go_wp2
        go_ret
        exact ⟨rfl, hB4.out⟩
end Go.Proofs.YtemlnmelicnneaaDoor
