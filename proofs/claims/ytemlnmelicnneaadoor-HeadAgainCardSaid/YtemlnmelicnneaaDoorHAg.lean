/-
  Layer 5: the walk of HeadAgain.
-/
import Derived.Test.YtemlnmelicnneaaDoorHAgP
import Derived.Test.YtemlnmelicnneaaDoorHPre
import Derived.Test.YtemlnmelicnneaaDoorHRet
namespace Go.Proofs.YtemlnmelicnneaaDoor
open Go.RowKit Syn Fr Hd Ck

theorem again_S {w8 w' : World} {G g : Nat} {t1 t2 : TypeId} {u0 u1 u2 x0 x1 x2 : Value} (hK : Hid (Blk w8 G t1 #[u0, u1, u2])) (hL : Hid (Blk w8 g t2 #[x0, x1, x2])) (hb : Below w8.heap.size w8 w') :
    Below w8.heap.size w8 w' ∧ w'.cell? ⟨G, 0, none⟩ = some u0 ∧ w'.cell? ⟨G, 1, none⟩ = some u1 ∧ w'.cell? ⟨G, 2, none⟩ = some u2 ∧ w'.cell? ⟨g, 0, none⟩ = some x0 ∧ w'.cell? ⟨g, 1, none⟩ = some x1 ∧ w'.cell? ⟨g, 2, none⟩ = some x2 :=
  ⟨hb, (hK.out.below hb).cell 0, (hK.out.below hb).cell 1, (hK.out.below hb).cell 2, (hL.out.below hb).cell 0, (hL.out.below hb).cell 1, (hL.out.below hb).cell 2⟩
theorem rq_okR {b : List UInt8} {w w' : World} {e : Ending} (h : RqR w b e w') (h0 : rqE b = 0) : ∃ A c, e = .returned (.tuple #[.agg #[.string (str (rqM b)), .string (str (rqT b)), .slice A (rqL b).length c], .int .i64 (endF b), .nilIface]) ∧ Rd w' 2 (.slice A (rqL b).length c) (rqL b).length (prs (rqL b)) ∧ Below w.heap.size w w' := by
  rcases h with ⟨⟨h, -⟩ | ⟨-, o, h, hr⟩, hb⟩
  · exact absurd h0 h
  · obtain ⟨A, c, rfl, -⟩ := id hr
    exact ⟨A, c, h, hr, hb⟩
set_option maxRecDepth 100000 in
set_option maxHeartbeats 16000000 in
theorem again_walk (l rst : List UInt8) (w : World) (hll : l.length ≤ 140737488355328) (hrs : rst.length ≤ 140737488355328) (hT : Tab10 w) (hM : MaxL w) :
    Calls Tryd.prog 8 #[.string (str l), .string (str rst)] w fun e w' => e = .returned (.bool true) ∧ Below w.heap.size w w' := by
  have hAw := Lib.hid (fun w' (hb : Below w.heap.size w w') => hawake_any w' (hT.below hb))
  have hRq := Lib.hid (fun (b : List UInt8) (g : Nat) (c : Nat) (w' : World) (hb : Below w.heap.size w w') (hl : b.length ≤ 100000) h => rdreq_any b (some ⟨g, 0, none⟩) c w' h (by omega) (fun e => by cases e) (hM.below hb))
  replace hT := Lib.hid hT
  have zx := str_size l
  have zr := str_size rst
  obtain ⟨cf, wf, hcx⟩ := conv_fn l
  have hcx1 := fun W => (hcx W).1
  have hcx2 := Lib.hid (fun W => (hcx W).2.1)
  have hcx3 := Lib.hid (fun W => (hcx W).2.2)
  clear hcx
  obtain ⟨sx, hsx⟩ : ∃ s, str l = s := ⟨_, rfl⟩
  rw [hsx] at zx hcx1 ⊢
  replace hsx := Lib.hid hsx
  obtain ⟨sr, hsr⟩ : ∃ s, str rst = s := ⟨_, rfl⟩
  rw [hsr] at zr ⊢
  replace hsr := Lib.hid hsr
  go_enter Tryd.func8, Tryd.ntmps8
  go_wp2_with fail
  refine (hAw.out _ (Below.refl _ _)).mono ?_
  rintro e w1 ⟨rfl, hb1⟩
  replace hb1 := Lib.hid hb1
  by_cases h20 : 20000 < l.length + rst.length
  · go_wp2_with fail
    refine (hAw.out _ hb1.out).mono ?_
    rintro e w2 ⟨rfl, hb2⟩
    have hB2 := Lib.hid (Below.next hb1.out hb1.out.size hb2)
    clear hb2
    go_wp2
    go_ret
    exact ⟨rfl, hB2.out⟩
  · have hB2 := Lib.hid (Below.next hb1.out hb1.out.size (hcx3.out w1))
    have hq1 := Lib.hid (hRq.out l _ _ _ hB2.out (by omega) (hcx2.out w1))
    have hB2s : w.heap.size ≤ (wf w1).heap.size := hB2.out.size
    replace hB2s := Lib.hid hB2s
    go_wp2_with fail
    refine hq1.out.mono ?_
    rintro e w3 h3
    by_cases hq : ¬ rqE l = 0
    · obtain ⟨rfl, hb3⟩ := rq_err h3 hq
      have hB3 := Below.next hB2.out hB2s.out hb3
      have hB4 := Lib.hid (hB3.alloc hB3.size (.cells #[.string ByteArray.empty, .string ByteArray.empty, .slice none 0 0] 46))
      clear h3 hb3 hB3 hq1
      generalize rqE l = q at *
      go_wp2
      go_ret
      exact ⟨rfl, hB4.out⟩
    · replace hq := Decidable.not_not.1 hq
      obtain ⟨A3, c3, rfl, hr3, hb3⟩ := rq_okR h3 hq
      obtain ⟨n, hn, n4, nl, n8, hwe, hwl, zm, zt, zF, zL⟩ := rq_read hq
      rw [hn]
      have hB3 := Below.next hB2.out hB2s.out hb3
      have hB4 := Lib.hid (hB3.alloc hB3.size (.cells #[.string (str (rqM l)), .string (str (rqT l)), .slice A3 (rqL l).length c3] 46))
      have hR4 := Lib.hid (hr3.below ((Below.refl w3.heap.size w3).alloc (Nat.le_refl _) (.cells #[.string (str (rqM l)), .string (str (rqT l)), .slice A3 (rqL l).length c3] 46)))
      have hK4 := Blk.new w3 46 #[.string (str (rqM l)), .string (str (rqT l)), .slice A3 (rqL l).length c3]
      replace hK4 := Lib.hid hK4
      have hx1 : sx.extract 0 n = str (l.take n) := by rw [← hsx.out, extract_str, bs_str, List.drop_zero]
      have zz : (str (l.take n)).size = n := by rw [str_size, List.length_take]; omega
      obtain ⟨T, hTT⟩ : ∃ T, l.take n ++ rst = T := ⟨_, rfl⟩
      have hTl : T.length = n + rst.length := by rw [← hTT, List.length_append, List.length_take]; omega
      obtain ⟨d1, d2, d3, d4, d5⟩ := rq_same (d := T) hq hn (by omega) (by rw [← hTT, List.take_append_of_le_length (by rw [List.length_take]; omega), List.take_take, Nat.min_self])
      have hst2 : str (l.take n) ++ sr = str T := by rw [← hTT, ← hsr.out, str_append]
      obtain ⟨cf2, wf2, hcy⟩ := conv_fn T
      have hcy1 := fun W => (hcy W).1
      have hcy2 := Lib.hid (fun W => (hcy W).2.1)
      have hcy3 := Lib.hid (fun W => (hcy W).2.2)
      clear hcy
      have u2 : ¬ 9223372036854775807 < n + rst.length := by omega
      replace hTT := Lib.hid hTT
      clear h3 hb3 hB3 hr3 hq1 hB2s
      obtain ⟨F, hF⟩ : ∃ F, rqL l = F := ⟨_, rfl⟩
      have hwq := Lib.hid hwe
      obtain ⟨m, hm⟩ : ∃ m, rqM l = m := ⟨_, rfl⟩
      obtain ⟨t, ht⟩ : ∃ t, rqT l = t := ⟨_, rfl⟩
      rw [hm, ht, hF] at hwe hR4 hB4 hK4
      rw [hF] at hwl zF zL
      rw [hm] at zm
      rw [ht] at zt
      have hWr := Lib.hid (fun v w h => wreq_any m t F v w (by omega) h (fun p hp => by have := lns_mem hp; omega) (by omega))
      have hRf := Lib.hid (fun w h => refs_any F (.slice A3 F.length c3) w (by omega) h)
      replace zL := Lib.hid zL
      replace zF := Lib.hid zF
      replace zm := Lib.hid zm
      replace zt := Lib.hid zt
      rw [hm, ht, hF]
      clear hwq
      generalize hsm : str m = sm at *
      generalize hsd : str t = sd at *
      generalize hs1 : str (l.take n) = s1 at *
      generalize hs2 : str T = s2 at *
      replace hsm := Lib.hid hsm
      replace hsd := Lib.hid hsd
      replace hs1 := Lib.hid hs1
      replace hs2 := Lib.hid hs2
      replace hwe := Lib.hid hwe
      replace hwl := Lib.hid hwl
      replace hm := Lib.hid hm
      replace ht := Lib.hid ht
      replace hF := Lib.hid hF
      replace d1 := Lib.hid d1
      replace d2 := Lib.hid d2
      replace d3 := Lib.hid d3
      replace d4 := Lib.hid d4
      replace d5 := Lib.hid d5
      have hB5 := Lib.hid (Below.next hB4.out hB4.out.size (hcy3.out (w3.alloc (.cells #[.string sm, .string sd, .slice A3 F.length c3] 46))))
      have hB5s := Lib.hid hB5.out.size
      have hq2 := Lib.hid (hRq.out T _ _ _ hB5.out (by omega) (hcy2.out (w3.alloc (.cells #[.string sm, .string sd, .slice A3 F.length c3] 46))))
      rw [hTl, alloc_size'] at hq2
      have hR5 := Lib.hid (hR4.out.below (hcy3.out (w3.alloc (.cells #[.string sm, .string sd, .slice A3 F.length c3] 46))))
      have hK5 := Lib.hid (hK4.out.below (hcy3.out (w3.alloc (.cells #[.string sm, .string sd, .slice A3 F.length c3] 46))))
      go_wp2_with fail
      generalize wf2 (w3.alloc (.cells #[.string sm, .string sd, .slice A3 F.length c3] 46)) = w5 at *
      refine hq2.out.mono ?_
      rintro e w6 h6
      obtain ⟨A6, c6, rfl, hr6, hb6⟩ := rq_okR h6 d1.out
      rw [d2.out, d3.out, d4.out, d5.out, hm.out, ht.out, hF.out, hsm.out, hsd.out]
      rw [d5.out, hF.out] at hr6
      have hB6 := Below.next hB5.out hB5s.out hb6
      have hB7 := Lib.hid (hB6.alloc hB6.size (.cells #[.string sm, .string sd, .slice A6 F.length c6] 46))
      have h67 := (Below.refl w6.heap.size w6).alloc (Nat.le_refl _) (.cells #[.string sm, .string sd, .slice A6 F.length c6] 46)
      have hR7 := Lib.hid (hr6.below h67)
      have hK7 := Lib.hid ((hK5.out.below hb6).below h67)
      have hF7 := Lib.hid ((hR5.out.below hb6).below h67)
      have hL7 := Lib.hid (Blk.new w6 46 #[.string sm, .string sd, .slice A6 F.length c6])
      have qm : (sm.toList == sm.toList) = true := beq_self_eq_true _
      have qd : (sd.toList == sd.toList) = true := beq_self_eq_true _
      clear h6 hb6 hB6 hr6 hq2 h67 hK5 hR5 hK4 hR4
      go_upto_region 9 with (fail)
      generalize hg6 : w6.heap.size = g6 at *
      generalize w6.alloc (.cells #[.string sm, .string sd, .slice A6 F.length c6] 46) = w7 at *
      generalize hg3 : w3.heap.size = g3 at *
      replace hg6 := Lib.hid hg6
      replace hg3 := Lib.hid hg3
      have hst := again_S hK7 hL7 (Below.refl w7.heap.size w7)
      have hRl := Lib.hid (fun w' (hb : Below w7.heap.size w7 w') => hF7.out.below hb)
      have hR7l := Lib.hid (fun w' (hb : Below w7.heap.size w7 w') => hR7.out.below hb)
      have hAre := Lib.hid (fun w' ol (h1 : Rd w' 2 (.slice A6 F.length c6) F.length (prs F)) (h2 : Rd w' 2 ol F.length (prs F)) => are_any (l1 := F) (l2 := F) (v1 := .slice A6 F.length c6) (v2 := ol) w' h1 h2 rfl (by have := zF.out; omega))
      go_region_held3 (fun w' => Below w7.heap.size w7 w' ∧ w'.cell? ⟨g3, 0, none⟩ = some (.string sm) ∧ w'.cell? ⟨g3, 1, none⟩ = some (.string sd) ∧ w'.cell? ⟨g3, 2, none⟩ = some (.slice A3 F.length c3) ∧ w'.cell? ⟨g6, 0, none⟩ = some (.string sm) ∧ w'.cell? ⟨g6, 1, none⟩ = some (.string sd) ∧ w'.cell? ⟨g6, 2, none⟩ = some (.slice A6 F.length c6))
        (first | exact hst | assumption | exact again_S hK7 hL7 (Below.refl _ _).drew | exact again_S hK7 hL7 hb10 | exact again_S hK7 hL7 hb10.drew | exact again_S hK7 hL7 (below_drewN hb10 _) | exact again_S hK7 hL7 (below_drewN hb10 _).drew | exact again_S hK7 hL7 (below_drewN hb10.drew _))
        (first
          | (go_at_call 26; refine (hRf.out _ (hRl.out _ (And.left (by assumption)))).mono ?_; rintro e w9 ⟨o9, rfl, ho9, hb9⟩; (first | have hb10 : Below w7.heap.size w7 w9 := hb9 | have hb10 : Below w7.heap.size w7 w9 := below_of_drew hb9); obtain ⟨A9, c9, rfl, -, -, -⟩ := Rd.own ho9)
          | (go_at_call 21; refine (hAre.out _ _ (hR7l.out _ (And.left (by assumption))) (by first | exact Rd.own ho9 | exact (Rd.own ho9).drewN 1)).mono ?_; rintro e w11 ⟨rfl, n11, rfl⟩))
      rename_i hHeld
      obtain ⟨hB11, e0, e1, e2, f0, f1, f2⟩ := hHeld
      have hw11 := Lib.hid (Below.next hB7.out hB7.out.size hB11)
      have hR11 := Lib.hid (hRl.out _ hB11)
      have hK11 := Lib.hid (hK7.out.below hB11)
      generalize w9.drewN n11 = w11 at *
      clear f0 f1 f2 hB11 hst hRl hR7l hK7 hL7 hF7 hR7 hb9 hb10 ho9
      have hx := hWr.out _ _ hR11.out
      unfold WqR at hx
      rcases hwe.out with hz | ⟨hz, h81⟩
      · obtain ⟨b1, b2, b3, b5, b4⟩ := req_back [] hz
        have hwl0 := (wqE_ok hz).2.2
        rw [hz, errV_zero] at hx
        rw [List.append_nil] at b1 b2 b3 b4 b5
        rw [hwl.out] at b5
        generalize wqB m t F = wb at *
        replace hx := Lib.hid hx
        replace hz := Lib.hid hz
        go_wp2_with fail
        refine hx.out.mono ?_
        rintro e w12 ⟨o12, rfl, ho12, hb12⟩
        obtain ⟨A12, c12, rfl, hc12, hr12⟩ := ownM_form ho12
        have hB12 := Lib.hid (Below.next hw11.out hw11.out.size hb12)
        have hK12 := Lib.hid (hK11.out.below hb12)
        have hR12 := Lib.hid (hR11.out.below hb12)
        have hRd := Lib.hid (rdreq_any wb A12 c12 w12 hr12 (by omega) hc12 (hM.below hB12.out))
        clear e0 e1 e2 hx ho12 hb12 hr12 hc12 hK11 hR11
        replace b1 := Lib.hid b1
        replace b2 := Lib.hid b2
        replace b3 := Lib.hid b3
        replace b4 := Lib.hid b4
        replace b5 := Lib.hid b5
        go_wp2_with fail
        refine hRd.out.mono ?_
        rintro e w13 h13
        obtain ⟨A13, c13, rfl, hr13, hb13⟩ := rq_okR h13 b1.out
        rw [b2.out, b3.out, b4.out, b5.out, hsm.out, hsd.out]
        rw [b5.out] at hr13
        have hB13 := Below.next hB12.out hB12.out.size hb13
        have hB14 := Lib.hid (hB13.alloc hB13.size (.cells #[.string sm, .string sd, .slice A13 F.length c13] 46))
        have h134 := (Below.refl w13.heap.size w13).alloc (Nat.le_refl _) (.cells #[.string sm, .string sd, .slice A13 F.length c13] 46)
        have hR14 := Lib.hid (hr13.below h134)
        have hK14 := Lib.hid ((hK12.out.below hb13).below h134)
        have hF14 := Lib.hid ((hR12.out.below hb13).below h134)
        have hL14 := Lib.hid (Blk.new w13 46 #[.string sm, .string sd, .slice A13 F.length c13])
        clear h13 hb13 hB13 hr13 hRd h134 hK12 hR12
        go_upto_region 15 with (fail)
        generalize hg13 : w13.heap.size = g13 at *
        generalize w13.alloc (.cells #[.string sm, .string sd, .slice A13 F.length c13] 46) = w14 at *
        replace hg13 := Lib.hid hg13
        have hst := again_S hK14 hL14 (Below.refl w14.heap.size w14)
        have hRl := Lib.hid (fun w' (hb : Below w14.heap.size w14 w') => hF14.out.below hb)
        have hR7l := Lib.hid (fun w' (hb : Below w14.heap.size w14 w') => hR14.out.below hb)
        have hAre2 := Lib.hid (fun w' ol (h1 : Rd w' 2 (.slice A13 F.length c13) F.length (prs F)) (h2 : Rd w' 2 ol F.length (prs F)) => are_any (l1 := F) (l2 := F) (v1 := .slice A13 F.length c13) (v2 := ol) w' h1 h2 rfl (by have := zF.out; omega))
        go_region_held3 (fun w' => Below w14.heap.size w14 w' ∧ w'.cell? ⟨g3, 0, none⟩ = some (.string sm) ∧ w'.cell? ⟨g3, 1, none⟩ = some (.string sd) ∧ w'.cell? ⟨g3, 2, none⟩ = some (.slice A3 F.length c3) ∧ w'.cell? ⟨g13, 0, none⟩ = some (.string sm) ∧ w'.cell? ⟨g13, 1, none⟩ = some (.string sd) ∧ w'.cell? ⟨g13, 2, none⟩ = some (.slice A13 F.length c13))
          (first | exact hst | assumption | exact again_S hK14 hL14 (Below.refl _ _).drew | exact again_S hK14 hL14 hb10 | exact again_S hK14 hL14 hb10.drew | exact again_S hK14 hL14 (below_drewN hb10 _) | exact again_S hK14 hL14 (below_drewN hb10 _).drew | exact again_S hK14 hL14 (below_drewN hb10.drew _))
          (first
            | (go_at_call 26; refine (hRf.out _ (hRl.out _ (And.left (by assumption)))).mono ?_; rintro e w15 ⟨o15, rfl, ho9, hb9⟩; (first | have hb10 : Below w14.heap.size w14 w15 := hb9 | have hb10 : Below w14.heap.size w14 w15 := below_of_drew hb9); obtain ⟨A15, c15, rfl, -, -, -⟩ := Rd.own ho9)
            | (go_at_call 21; refine (hAre2.out _ _ (hR7l.out _ (And.left (by assumption))) (by first | exact Rd.own ho9 | exact (Rd.own ho9).drewN 1)).mono ?_; rintro e w17 ⟨rfl, n17, rfl⟩))
        all_goals
          go_wp2
          go_ret
          exact ⟨rfl, Below.next hB14.out hB14.out.size (And.left (by assumption))⟩
      · rw [hz, herr_ne (by decide)] at hx
        have hIs : Hid (∀ w, Calls Tryd.prog 24 #[.iface 59 (.int .i64 5), .int .i64 5] w fun e w' => e = .returned (.bool true) ∧ w' = w) := Lib.hid (fun w => by
          have := is_any 5 5 w
          rw [herr_ne (by decide)] at this
          exact this)
        replace hx := Lib.hid hx
        replace hz := Lib.hid hz
        have h81' : (8128 : Int) < (n : Int) := by omega
        go_wp2_with fail
        refine hx.out.mono ?_
        rintro e w12 ⟨o12, rfl, ho12, hb12⟩
        obtain ⟨A12, c12, rfl, -, -⟩ := ownM_form ho12
        have hB12 := Lib.hid (Below.next hw11.out hw11.out.size hb12)
        clear hx ho12 hb12
        go_wp2_with fail
        refine (hIs.out _).mono ?_
        rintro e w13 ⟨rfl, hw13⟩
        replace hB12 : Hid (Below w.heap.size w w13) := Lib.hid (by rw [hw13]; exact hB12.out)
        clear hw13
        go_wp2
        go_ret
        exact ⟨rfl, hB12.out⟩
end Go.Proofs.YtemlnmelicnneaaDoor
