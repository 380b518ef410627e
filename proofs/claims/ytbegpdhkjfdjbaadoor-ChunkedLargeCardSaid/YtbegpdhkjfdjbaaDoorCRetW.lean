/-
  Layer 7: the walk of ChunkedReturns.
-/
import Derived.Test.YtbegpdhkjfdjbaaDoorCRetI
import Derived.Test.YtbegpdhkjfdjbaaDoorCFew
import Derived.Deep.DeepCutAuto
namespace Go.Proofs.YtbegpdhkjfdjbaaDoor
open Go.RowKit Syn Ck

theorem encB_len {ps : List (List UInt8)} {l : List (List UInt8 × List UInt8)} (h : encE ps l = 0) : encB ps l = chks ps ++ lastB l ∧ (lastB l).length ≤ 9000 ∧ 3 ≤ (lastB l).length := by
  refine ⟨by unfold encB; rw [if_pos h], ?_, ?_⟩
  · unfold encE at h
    split at h
    · cases h
    · split at h
      · exact lastB_le ‹_›
      · cases h
  · unfold lastB; simp
theorem Rd.lt1 {w : World} {sz n : Nat} {v : Value} {xs : List Value} (h : Rd w sz v n xs) (hn : 0 < n) : ∀ j, v.ownBlock = some j → j < w.heap.size := by
  obtain ⟨A, cap, rfl, hc, hl, h⟩ := h
  obtain ⟨b, o, rfl, hb, -⟩ := h hn
  intro j hj
  have : b = j := Option.some.inj hj
  omega
/-- append of bytes onto an owned row, at an operation that is guarded. -/
theorem step_push8W {ops : Array Oper} {rest : List Oper} {o : Oper} {a : Act} {Q : Exit → Act → World → Prop} {w : World} (s x : Operand)
    (hw : Region.wanted o (yielded ops a.tmps) = true) (ho : o.op = .call { callee := .builtin .append, args := #[s, x], argTypes := #[30, 30] })
    {B c : Nat} {v : Value} {L M : List UInt8} {A : Option Addr} (hs : a.eval s = v) (hown : Own w B 5 1 v L.length (u8s L)) (hx : a.eval x = .slice A M.length c) (hR : Rd w 1 (.slice A M.length c) M.length (u8s M)) (hn : L.length + M.length ≤ 10000000000) (hB : B ≤ w.heap.size)
    (h : ∀ v' w', Own w' B 5 1 v' (L ++ M).length (u8s (L ++ M)) → w.grownBy w' v.ownBlock → (v'.ownBlock = v.ownBlock ∨ v'.ownBlock = some w.heap.size) → wpList Tryd.prog ops Q rest (a.put o.dst v') w') : wpList Tryd.prog ops Q (o :: rest) a w := by
  refine wpList_step fun K hK => ?_
  rw [if_pos hw]
  obtain ⟨v', w', hr, h2, h3, h4⟩ := run_push8 w o.type hown hR hn hB
  unfold Oper.wp execOp
  simp only [ho, resolve, invoke, builtin, Sem.run_bind, Sem.run_pure, Result.andThen_ok, List.map_toArray, List.map_cons, List.map_nil, hs, hx, hr]
  exact hK _ _ (h v' w' h2 h3 h4)
set_option maxRecDepth 100000 in
set_option maxHeartbeats 16000000 in
theorem returns_walk (ps : List (List UInt8)) (l : List (List UInt8 × List UInt8)) (rest : List UInt8) (v vl vr : Value) (W0 : World) (hP : Parts W0 v ps) (hs : ∀ p ∈ ps, p.length ≤ 140737488355328) (hm : ps.length ≤ 140737488355328)
    (hR : Rd W0 2 vl l.length (prs l)) (hl : ∀ p ∈ l, p.1.length ≤ 140737488355328 ∧ p.2.length ≤ 140737488355328) (hlm : l.length ≤ 140737488355328) (hRr : Rd W0 1 vr rest.length (u8s rest)) (hrm : rest.length ≤ 140737488355328) (hT : W0.cell? ⟨5, 15, none⟩ = some (.int .u8 4)) :
    Calls Tryd.prog 9 #[v, vl, vr] W0 fun e w' => e = .returned (.bool true) ∧ Below W0.heap.size W0 w' := by
  obtain ⟨A, cap, rfl, hcap, -⟩ := id hP
  obtain ⟨Al, cl, rfl, hcl, -⟩ := id hR
  obtain ⟨Ar, cr, rfl, hcr, -⟩ := id hRr
  have h5 := cell_lt hT
  have hF := Lib.hid (fun w (h : Parts w (.slice A ps.length cap) ps) => fits_any ps _ w h hs hm)
  have hG := Lib.hid (fun w (h : Rd w 2 (.slice Al l.length cl) l.length (prs l)) => few_any l _ w h hl hlm)
  replace hs := Lib.hid hs
  replace hl := Lib.hid hl
  replace hR := Lib.hid hR
  replace hRr := Lib.hid hRr
  replace hT := Lib.hid hT
  cases hfb : fitsB ps
  · rw [hfb] at hF
    replace hP := Lib.hid hP
    go_enter Tryd.func9, Tryd.ntmps9
    go_wp2_with fail
    refine (cawake_any _).mono ?_
    rintro e w1 ⟨rfl, hb1⟩
    have hF1 := Lib.hid (hF.out w1 (hP.out.below hb1))
    replace hb1 := Lib.hid hb1
    go_wp2_with fail
    refine hF1.out.mono ?_
    rintro e w2 ⟨rfl, rfl⟩
    go_wp2_with fail
    refine (cawake_any _).mono ?_
    rintro e w3 ⟨rfl, hb3⟩
    have hB3 := Lib.hid (Below.next hb1.out hb1.out.size hb3)
    clear hb3
    go_wp2
    go_ret
    exact ⟨rfl, hB3.out⟩
  · rw [hfb] at hF
    obtain ⟨hn1, hn2⟩ := fitsB_of hfb
    have hbd := Lib.hid (fun k => Nat.le_trans (flat_take_le ps k) hn2)
    replace hP := Lib.hid hP
    clear hfb
    go_enter Tryd.func9, Tryd.ntmps9
    go_wp2_with fail
    refine (cawake_any _).mono ?_
    rintro e w1 ⟨rfl, hb1⟩
    have hF1 := Lib.hid (hF.out w1 (hP.out.below hb1))
    have hG1 := Lib.hid (hG.out w1 (hR.out.below hb1))
    replace hb1 := Lib.hid hb1
    go_wp2_with fail
    refine hF1.out.mono ?_
    rintro e w2 ⟨rfl, rfl⟩
    go_wp2_with fail
    refine hG1.out.mono ?_
    rintro e w3 ⟨fb, rfl, hfew, n3, hw3⟩
    have hb3 := Lib.hid (show Below W0.heap.size W0 w3 by rw [hw3]; exact below_drewN hb1.out n3)
    clear hw3 hG1 hF1 hb1 hF hG
    cases fb with
    | false =>
      clear hfew
      go_wp2_with fail
      refine (cawake_any _).mono ?_
      rintro e w4 ⟨rfl, hb4⟩
      have hB4 := Lib.hid (Below.next hb3.out hb3.out.size hb4)
      clear hb4
      go_wp2
      go_ret
      exact ⟨rfl, hB4.out⟩
    | true =>
      by_cases hrl : 12000 < rest.length
      · clear hfew
        go_wp2_with fail
        refine (cawake_any _).mono ?_
        rintro e w4 ⟨rfl, hb4⟩
        have hB4 := Lib.hid (Below.next hb3.out hb3.out.size hb4)
        clear hb4
        go_wp2
        go_ret
        exact ⟨rfl, hB4.out⟩
      obtain ⟨hl80, hlb⟩ := hfew rfl
      have hls : ∀ p ∈ l, p.1.length ≤ 100000 ∧ p.2.length ≤ 100000 := fun p hp => by have := bulk_mem hp; omega
      have hps : ∀ p ∈ ps, p.length ≤ 1000000 := fun p hp => by
        obtain ⟨k, hk, rfl⟩ := List.getElem_of_mem hp
        have := flat_at ps hk
        omega
      have hcle := chks_le ps hps
      have hFl := fields_any l (.slice Al l.length cl) w3 (by omega) (hR.out.below hb3.out)
      have hEn := fun w' v' (hb : Below W0.heap.size W0 w') (hr : Rd w' 2 v' l.length (prs l)) => encode_any ps l (.slice A ps.length cap) v' w' (hP.out.below hb) hn1 hps hr hls hlm ((hb.cell h5).trans hT.out)
      unfold EncR at hEn
      replace hFl := Lib.hid hFl
      replace hEn := Lib.hid hEn
      replace hls := Lib.hid hls
      replace hps := Lib.hid hps
      clear hfew hlb
      go_wp2_with fail
      refine hFl.out.mono ?_
      rintro e w4 ⟨v4, rfl, ho4, hb4⟩
      have hB4 := Lib.hid (Below.next hb3.out hb3.out.size hb4)
      have hE4 := Lib.hid (hEn.out w4 v4 hB4.out (Rd.own ho4))
      clear hb4 ho4 hFl hEn
      have hev : encE ps l = 0 ∨ encE ps l = 34 := by
        unfold encE
        rw [if_neg (by omega)]
        split
        · exact .inl rfl
        · exact .inr rfl
      rcases hev with hev | hev
      · have hwr := wr_enc hev
        obtain ⟨hq1, hq2, hq3⟩ := encB_len hev
        have hBl : (encB ps l).length ≤ 24000 := by rw [hq1, List.length_append]; omega
        have hBp : 0 < (encB ps l).length := by rw [hq1, List.length_append]; omega
        clear hq1 hq2 hq3 hcle
        rw [hev, errV_zero] at hE4
        generalize encB ps l = B at *
        replace hev := Lib.hid hev
        obtain ⟨sE, hwr, hs8, hsb, hsf⟩ := hwr
        go_wp2_with fail
        refine hE4.out.mono ?_
        rintro e w5 ⟨v5, rfl, ho5, hb5⟩
        have hB5 := Lib.hid (Below.next hB4.out hB4.out.size hb5)
        obtain ⟨A5, c5, rfl, hc5, -, -⟩ := Rd.own ho5
        obtain ⟨g5, rfl⟩ : ∃ g5, A5 = some ⟨g5, 0, none⟩ := by
          obtain ⟨_, ⟨h1, h2⟩ | ⟨g, cap', cur, e, _⟩⟩ := ho5
          · exfalso; omega
          · injection e with e1; exact ⟨g, e1⟩
        have hg5 := (World.ownsRow.lt ho5 g5 rfl)
        clear hb5
        -- the decoder
        have hD6 := Decv.new w5
        have hb6 := (Below.refl w5.heap.size w5).alloc (Nat.le_refl _) (.cells (cells 0 0 0 0 0 (.slice none 0 0) false 0 (.slice none 0 0) .nilIface) 68)
        have hs6 := alloc_size' w5 (.cells (cells 0 0 0 0 0 (.slice none 0 0) false 0 (.slice none 0 0) .nilIface) 68)
        have hB6 := Below.next hB5.out hB5.out.size hb6
        have ho6 := own_below ho5 hb6
        have hgd : W0.heap.size ≤ w5.heap.size := hB5.out.size
        replace hD6 := Lib.hid hD6
        replace hB6 := Lib.hid hB6
        replace ho6 := Lib.hid ho6
        replace hs6 := Lib.hid hs6
        replace hwr := Lib.hid hwr
        replace hsf := Lib.hid hsf
        replace ho5 := Lib.hid ho5
        clear hb6
        go_wp2_with fail
        refine (cnew_any _).mono ?_
        rintro e w6 ⟨rfl, hw6⟩
        rw [← hw6] at hD6 hB6 ho6 hs6
        clear hw6
        have hs6' := hs6.out
        generalize w5.heap.size = gd at *
        go_wp2
        go_loopw [10, 12] (fun o i wx => ∃ k : Nat, i = .int .i64 (k : Int) ∧ k ≤ ps.length ∧ Hid (Own wx w6.heap.size 5 1 o (ps.take k).flatten.length (u8s (ps.take k).flatten)) ∧ Hid (Below w6.heap.size w6 wx)) (fun _ i _ => ps.length - (intOf i).toNat)
        case atStart => exact ⟨0, rfl, by omega, own_nil _ _ _ _, Below.refl _ _⟩
        case round =>
          obtain ⟨k, rfl, hk, ho, hB⟩ := hrel
          have hBs := hB.out.size
          by_cases hlt : k < ps.length
          · obtain ⟨A', c', e', -, r'⟩ := hP.out.below (hB6.out.trans (hB.out.mono hB6.out.size))
            cases e'
            obtain ⟨b, o, rfl, hbl, hx⟩ := r' (by omega)
            obtain ⟨Ai, ci, d1, hRk⟩ := hx k hlt
            have hl1 := hbd.out k
            have hl2 := hbd.out (k + 1)
            rw [flat_take hlt, List.length_append] at hl2
            have hft := Lib.hid (flat_take hlt)
            obtain ⟨Aa, ca, rfl, -, -, -⟩ := Rd.own ho.out
            have h1c := Lib.hid (u8s_one ps[k])
            clear hx r'
            generalize ps[k] = p at *
            generalize (ps.take k).flatten = fl at *
            replace hRk := Lib.hid hRk
            go_wp2_with (at_builtin; go_loud (refine step_pushR (v := Value.slice Aa fl.length ca) (n := fl.length) (m := p.length) (xs := u8s fl) (news := u8s p) (c := ci) (A := Ai) (B := w6.heap.size) 30 5 (.int .u8 0) 1 1 _ _ rfl rfl Tryd.underlying30 infoU8 rfl (by decide) (by decide) rfl ho.out rfl hRk.out h1c.out (by omega) hBs ?_); intro v7 w7 ho7 hg7 hat7; have hB7 := Lib.hid (hB.out.trans (below_grown ho.out hg7 hBs)); replace ho7 := Lib.hid ho7; clear hg7 hat7)
            go_roundw
            case rel => exact ⟨k + 1, by go_num, by omega, Lib.hid (by rw [hft.out, List.length_append, u8s_app]; exact ho7.out), hB7⟩
            case measure => simp only [intOf]; omega
          · obtain rfl : k = ps.length := by omega
            rw [List.take_length] at ho
            obtain ⟨D, hD⟩ : ∃ D, ps.flatten = D := ⟨_, rfl⟩
            rw [hD] at ho hn2
            replace hwr : Hid (Ck.wr zero B = (sE, D, B.length)) := Lib.hid (by rw [← hD]; exact hwr.out)
            clear hD
            -- what was made stands at the second loop
            have hDw := hD6.out.below hB.out
            have how := own_below ho6.out hB.out
            have hWB := hB6.out.trans (hB.out.mono hB6.out.size)
            obtain ⟨Aw, cw, rfl, -, -, -⟩ := Rd.own ho.out
            have hgs : gd < wr.heap.size := by omega
            have hI0 := Lib.hid (RetI.init hDw)
            have hKall : ∀ w', Kp (· = gd) wr w' → Rd w' 1 (.slice (some ⟨g5, 0, none⟩) B.length c5) B.length (u8s B) := fun w' hk => (Rd.own how).kp (fun j hj e => by have h1 := Option.some.inj hj; change g5 = j at h1; omega) hk
            have hKw : ∀ w', Kp (· = gd) wr w' → Own w' w6.heap.size 5 1 (.slice Aw D.length cw) D.length (u8s D) := fun w' hk => Own.kp ho.out (fun j hj e => by have h1 := (World.ownsRow.lt ho.out j hj).1; omega) hk
            replace hKall := Lib.hid hKall
            replace hKw := Lib.hid hKw
            replace hWB := Lib.hid hWB
            clear hDw how hP
            obtain ⟨w0, hw0⟩ : ∃ w0 : World, w0 = wr := ⟨_, rfl⟩
            subst hw0
            go_wp2_with fail
            go_loopw [11, 13] (fun got i wx => ∃ (k : Nat) (s : St) (out : List UInt8) (F : Nat → Prop), i = .int .i64 (k : Int) ∧ k ≤ B.length ∧ Hid (Ck.wr zero (B.take k) = (s, out, k)) ∧ Hid (RetI w0 gd s out got F wx)) (fun _ i _ => B.length - (intOf i).toNat)
            case atStart => exact ⟨0, zero, [], _, rfl, by omega, Lib.hid rfl, hI0⟩
            case round =>
              clear hI0
              obtain ⟨k, s, out, F, rfl, hk, hrun, hI⟩ := hrel
              by_cases hlt : k < B.length
              · obtain ⟨hsb0, hs80, s2, o2, hst, hsb2, hrun2⟩ := feed hwr.out hlt hrun.out
                have hoc := wr_data_count (B.take k) zero
                rw [hrun.out] at hoc
                simp only at hoc
                have hoc2 := wr_data_count (B.take (k + 1)) zero
                rw [hrun2] at hoc2
                simp only [List.length_append] at hoc2
                obtain ⟨hpl, hRp⟩ := (hKall.out _ hI.out.kp).part k 1 (c5 - k) (by omega) (by omega)
                rw [Nat.zero_add] at hRp
                have h1x : (B.drop k).take 1 = [B[k]] := by rw [List.drop_eq_getElem_cons hlt]; rfl
                rw [h1x] at hRp
                have hdn := cdone_any hI.out.dec
                rw [decide_eq_false hs80] at hdn
                have htr := ctrail_any hI.out.dec (fun h => absurd h hs80)
                rw [if_neg hs80] at htr
                have hFg : ∀ j, F j → g5 ≠ j := fun j hj e => by subst e; rcases hI.out.fr g5 hj with h | h <;> omega
                have hWr := fun w' (hb : Below wr.heap.size wr w') => write_any s (hI.out.dec.below hb) [B[k]] (some ⟨g5, k, none⟩) (c5 - k) (hRp.below hb) (fun _ j hj e => by have h1 := Option.some.inj hj; exact hFg j e h1) (by rw [List.length_singleton]; omega)
                have hWI := fun w' (hb : Below wr.heap.size wr w') e w'' (hw : WriteR w' gd F s [B[k]] e w'') => (hI.out.step hb).write hw
                rw [hst] at hWI
                simp only [hsb2] at hWI
                simp only [show errV ((0 : Nat) : Int) = .nilIface from rfl] at hWI
                have h1c := u8s_one o2
                have p1 : (0 : Int) ≤ (k : Int) := by omega
                have p2 : (k : Int) < (B.length : Int) := by omega
                have p3 : (k : Int) + 1 ≤ (B.length : Int) := by omega
                have p4 : ¬ c5 = k := by omega
                have p5 : IntKind.i64.wrap ((k : Int) + 1) = (k : Int) + 1 := IntWalk.i64_in _ (by omega)
                have p6 : ((k : Int) + 1).toNat = k + 1 := by omega
                have p7 : k + 1 - k = 1 := by omega
                replace hrun := Lib.hid hrun.out
                replace hrun2 := Lib.hid hrun2
                replace hdn := Lib.hid hdn
                replace htr := Lib.hid htr
                replace hWr := Lib.hid hWr
                replace hWI := Lib.hid hWI
                replace hst := Lib.hid hst
                replace h1c := Lib.hid h1c
                replace hRp := Lib.hid hRp
                replace hFg := Lib.hid hFg
                replace hsb0 := Lib.hid hsb0
                replace hsb2 := Lib.hid hsb2
                replace h1x := Lib.hid h1x
                replace hpl := Lib.hid hpl
                go_wp2_with fail
                refine hdn.out.mono ?_
                rintro e w7 ⟨rfl, rfl⟩
                go_wp2_with fail
                refine htr.out.mono ?_
                rintro e w8 ⟨v8, rfl, ho8, hb8⟩
                obtain ⟨A8, c8, rfl, -⟩ := Rd.own ho8
                have hW8 := Lib.hid (hWr.out w8 hb8)
                have hI8 := Lib.hid (hWI.out w8 hb8)
                clear ho8
                replace hb8 := Lib.hid hb8
                go_wp2_with fail
                refine hW8.out.mono ?_
                rintro e w9 h9
                obtain ⟨vb, F', rfl, hvb, hofb, hI9⟩ := hI8.out e w9 h9
                obtain ⟨Av, cv, rfl, -⟩ := Rd.own hvb
                obtain ⟨Ag, cg, rfl, -⟩ := Rd.own hI9.hgot
                have hRb := Lib.hid (Rd.own hvb)
                have hs9 := hI9.kp.size
                replace hI9 := Lib.hid hI9
                replace hvb := Lib.hid hvb
                replace hofb := Lib.hid hofb
                clear h9
                go_wp2_with (at_builtin; go_loud (refine step_push8W (L := out) (M := o2) (c := cv) (A := Av) (B := w0.heap.size) _ _ (by rfl) rfl rfl hI9.out.hgot rfl hRb.out (by omega) hs9 ?_); intro v10 w10 ho10 hg10 hat10; have hI10 := Lib.hid (hI9.out.grow hg10 ho10 hat10); clear ho10 hg10 hat10)
                go_roundw
                case rel => exact ⟨k + 1, s2, out ++ o2, F', by go_num, by omega, hrun2, hI10⟩
                case measure => simp only [intOf]; omega
              · obtain rfl : k = B.length := by omega
                have hrun' := hrun.out
                rw [List.take_length, hwr.out] at hrun'
                simp only [Prod.mk.injEq] at hrun'
                obtain ⟨rfl, rfl, -⟩ := hrun'
                clear hrun
                have hIW : Below W0.heap.size W0 wr := hWB.out.trans (hI.out.kp.toBelow hWB.out.size (fun j e => by rw [e]; exact hgd))
                have htr := ctrail_any hI.out.dec (fun _ => hsb)
                rw [if_pos hs8, hsf.out] at htr
                obtain ⟨L2, hL2⟩ : ∃ L2, (l.map fun p => (nmV p.1, p.2)) = L2 := ⟨_, rfl⟩
                have hL2l : L2.length = l.length := by rw [← hL2, List.length_map]
                have hL2k : ∀ k (h : k < l.length), L2[k]'(by omega) = (nmV l[k].1, l[k].2) := fun k h => by subst hL2; rw [List.getElem_map]
                rw [hL2, hL2l] at htr
                have hdn := fun w' (hb : Below wr.heap.size wr w') => cdone_any (hI.out.dec.below hb)
                rw [decide_eq_true hs8] at hdn
                have hby := fun w' (hb : Below wr.heap.size wr w') => bytes_rd w' (Rd.own (own_below hI.out.hgot hb)) (Rd.own (own_below (hKw.out wr hI.out.kp) hb))
                rw [decide_eq_true (show D = D from rfl)] at hby
                obtain ⟨Ag, cg, rfl, -⟩ := Rd.own hI.out.hgot
                replace hL2 := Lib.hid hL2
                replace hL2l := Lib.hid hL2l
                replace hL2k := Lib.hid hL2k
                replace htr := Lib.hid htr
                replace hdn := Lib.hid hdn
                replace hby := Lib.hid hby
                replace hIW := Lib.hid hIW
                go_wp2_with fail
                refine htr.out.mono ?_
                rintro e w7 ⟨v7, rfl, ho7, hb7⟩
                obtain ⟨A7, c7, rfl, -, -, hr7⟩ := Rd.own ho7
                have hdn7 := Lib.hid (hdn.out w7 hb7)
                have hI7 := Lib.hid (hI.out.step hb7)
                have hby7 := Lib.hid (hby.out w7 hb7)
                have hB7 := Lib.hid (Below.next hIW.out hIW.out.size hb7)
                have hb7' := Lib.hid hb7
                clear hb7
                replace ho7 := Lib.hid ho7
                replace hr7 := Lib.hid hr7
                go_wp2_with fail
                refine hdn7.out.mono ?_
                rintro e w8 ⟨rfl, rfl⟩
                go_wp2_with fail
                refine hby7.out.mono ?_
                rintro e w8 ⟨rfl, rfl⟩
                have qll : ((l.length : Int) != (l.length : Int)) = false := bne_self_eq_false _
                obtain ⟨w1, hw1⟩ : ∃ w1 : World, w1 = w8 := ⟨_, rfl⟩
                subst hw1
                go_wp2_with fail
                go_loopw [18] (fun i wx => ∃ k : Nat, i = .int .i64 (k : Int) ∧ k ≤ l.length ∧ Hid (Below w1.heap.size w1 wx)) (fun i _ => l.length - (intOf i).toNat)
                case atStart => exact ⟨0, rfl, by omega, Lib.hid (Below.refl _ _)⟩
                case round =>
                  obtain ⟨k, rfl, hk, hBx⟩ := hrel
                  by_cases hlt : k < l.length
                  · have hBW := Below.next hB7.out hB7.out.size hBx.out
                    obtain ⟨A', cap', e', -, -, r'⟩ := hR.out
                    cases e'
                    obtain ⟨b1, o1, rfl, hbl1, x1⟩ := r' (by omega)
                    obtain ⟨b2, o2, rfl, hbl2, x2⟩ := hr7.out (by omega)
                    have hk2 : k < L2.length := by rw [hL2l.out]; exact hlt
                    have hd : Hid (∀ w', Below W0.heap.size W0 w' → w'.cell? ⟨b1, o1 + k * 2, none⟩ = some (.string (str l[k].1)) ∧ w'.cell? ⟨b1, o1 + k * 2 + 1, none⟩ = some (.string (str l[k].2))) :=
                      Lib.hid (fun w' hb => ⟨by rw [hb.cell (p := ⟨b1, o1 + k * 2, none⟩) hbl1]; exact x1 _ _ (prs_at0 hlt), by rw [hb.cell (p := ⟨b1, o1 + k * 2 + 1, none⟩) hbl1]; exact x1 _ _ (prs_at1 hlt)⟩)
                    have hf : Hid (∀ w', Below w1.heap.size w1 w' → w'.cell? ⟨b2, o2 + k * 2, none⟩ = some (.string (str (nmV l[k].1))) ∧ w'.cell? ⟨b2, o2 + k * 2 + 1, none⟩ = some (.string (str l[k].2))) :=
                      Lib.hid (fun w' hb => ⟨by rw [hb.cell (p := ⟨b2, o2 + k * 2, none⟩) hbl2, x2 _ _ (prs_at0 hk2), hL2k.out k hlt], by rw [hb.cell (p := ⟨b2, o2 + k * 2 + 1, none⟩) hbl2]; rw [Nat.add_assoc, x2 _ _ (prs_at1 hk2), hL2k.out k hlt]⟩)
                    have hsz := hls.out l[k] (List.getElem_mem hlt)
                    obtain ⟨d1, -⟩ := hd.out wr hBW
                    clear x1 x2 r'
                    generalize l[k] = p at *
                    obtain ⟨nm, vl⟩ := p
                    simp only at d1 hd hf hsz
                    have hN := r2name_any (str nm) wr (by rw [str_size]; omega)
                    rw [bs_str] at hN
                    have qs1 := str_eq (a := nmV nm) (b := nmV nm) rfl
                    have qs2 := str_eq (a := vl) (b := vl) rfl
                    replace hBW := Lib.hid hBW
                    replace hN := Lib.hid hN
                    replace hk2 := Lib.hid hk2
                    generalize str (nmV nm) = s1 at *
                    generalize str vl = s2 at *
                    generalize str nm = s3 at *
                    generalize nmE nm = n1 at *
                    go_wp2_with fail
                    refine hN.out.mono ?_
                    rintro e w9 ⟨rfl, hb9⟩
                    have hB9 := Lib.hid (Below.next hBW.out hBW.out.size hb9)
                    have hB9x := Lib.hid (Below.next hBx.out hBx.out.size hb9)
                    obtain ⟨f1, f2⟩ := hf.out w9 hB9x.out
                    obtain ⟨-, f3⟩ := hd.out w9 hB9.out
                    clear hb9 d1
                    go_wp2_with fail
                    go_quiet (fail)
                    go_wp2
                    refine ⟨⟨k + 1, by go_num, by omega, Lib.hid (below_drewN hB9x.out _)⟩, ?_⟩
                    simp only [intOf]; omega
                  · have hIx := hI7.out.step hBx.out
                    have hBW := Below.next hB7.out hB7.out.size hBx.out
                    have hst := wr_stop (s := sE) (.inr hs8) rest
                    have hFo : ∀ j, F j → W0.heap.size ≤ j := fun j hj => by rcases hIx.fr j hj with h | h; omega; have := hWB.out.size; omega
                    have hrl0 := fun h0 => Rd.lt1 hRr.out h0
                    have hWr := write_any sE hIx.dec rest Ar cr (hRr.out.below hBW) (fun h0 j hj e => by have h1 := hrl0 h0 j hj; have h2 := hFo j e; omega) (by omega)
                    have hWI := fun e w'' (hw : WriteR wr gd F sE rest e w'') => hIx.write hw
                    rw [hst] at hWI
                    simp only [hsb] at hWI
                    simp only [show errV ((0 : Nat) : Int) = .nilIface from rfl] at hWI
                    have hall : Ck.wr zero (B ++ rest) = (sE, D, B.length) := by
                      rw [wr_append, hwr.out]
                      simp only
                      rw [hst]
                      simp
                    replace hWr := Lib.hid hWr
                    replace hWI := Lib.hid hWI
                    replace hst := Lib.hid hst
                    replace hall := Lib.hid hall
                    replace hFo := Lib.hid hFo
                    replace hrl0 := Lib.hid hrl0
                    replace hBW := Lib.hid hBW
                    replace hIx := Lib.hid hIx
                    clear hI7 hI hB7 hBx hb7' hdn7 hby7 hby hdn
                    go_wp2_with fail
                    refine hWr.out.mono ?_
                    rintro e w9 h9
                    obtain ⟨vb, F', rfl, hvb, -, hI9⟩ := hWI.out e w9 h9
                    obtain ⟨Av, cv, rfl, -⟩ := Rd.own hvb
                    have how9 := hKw.out w9 hI9.kp
                    have hall9 := hKall.out w9 hI9.kp
                    have hB9 : Below W0.heap.size W0 w9 := hWB.out.trans (hI9.kp.toBelow hWB.out.size (fun j e => by rw [e]; exact hgd))
                    have hB9s := hB9.size
                    -- the second decoder
                    have hD10 := Decv.new w9
                    have hb10 := (Below.refl w9.heap.size w9).alloc (Nat.le_refl _) (.cells (cells 0 0 0 0 0 (.slice none 0 0) false 0 (.slice none 0 0) .nilIface) 68)
                    have hs10 := alloc_size' w9 (.cells (cells 0 0 0 0 0 (.slice none 0 0) false 0 (.slice none 0 0) .nilIface) 68)
                    have hwlt := fun j (hj : (Value.slice Aw D.length cw).ownBlock = some j) => (World.ownsRow.lt how9 j hj).2
                    clear h9 hWI hWr hvb hI9
                    replace how9 := Lib.hid how9
                    replace hall9 := Lib.hid hall9
                    replace hB9 := Lib.hid hB9
                    replace hD10 := Lib.hid hD10
                    replace hb10 := Lib.hid hb10
                    replace hs10 := Lib.hid hs10
                    replace hwlt := Lib.hid hwlt
                    go_wp2_with fail
                    refine (cnew_any _).mono ?_
                    rintro e w10 ⟨rfl, hw10⟩
                    rw [← hw10] at hD10 hb10 hs10
                    clear hw10
                    have hs10' : w9.heap.size < w10.heap.size := by have := hs10.out; omega
                    have hmade := World.ownsRow_made (base := w10.heap.size) (size := 1) (e := 5) w10 #[] 0 (Nat.le_refl _) (Nat.zero_le _) rfl
                    have hbA := (Below.refl w10.heap.size w10).alloc (Nat.le_refl _) (.cells #[] 5)
                    have hG10 := Lib.hid (Grw.init (B := w10.heap.size) (L := []) hmade hbA.size)
                    have hR10 := Lib.hid ((hall9.out.below hb10.out).below hbA)
                    have hRr10 : Hid (∀ (v' : Value) (L' : List UInt8) (w' : World), Grw (w10.alloc (.cells #[] 5)) (.slice (some ⟨w10.heap.size, 0, none⟩) 0 0) w10.heap.size v' L' w' → Below w10.heap.size w10 w' ∧ Rd w' 1 (.slice Ar rest.length cr) rest.length (u8s rest)) := Lib.hid (fun v' L' w' hg => by
                      have hb : Below w10.heap.size w10 w' := hbA.trans (hg.below (fun j e => by cases e; exact Nat.le_refl _))
                      have hb2 : Below W0.heap.size W0 w10 := Below.next hB9.out hB9s hb10.out
                      exact ⟨hb, hRr.out.below (hb2.trans (hb.mono hb2.size))⟩)
                    clear hmade
                    replace hbA := Lib.hid hbA
                    go_wp2_with (at_builtin; first
                      | (refine step_grw _ _ rfl rfl B hG10.out rfl rfl rfl hR10.out (by rw [List.length_nil]; omega) ?_; intro v11 w11 hG11 hg11; rw [List.nil_append] at hG11; obtain ⟨A11, c11, rfl, -⟩ := Rd.own hG11.own; have hR11 := Lib.hid (hRr10.out _ _ _ hG11).2; replace hG11 := Lib.hid hG11; clear hg11)
                      | (refine step_grw _ _ rfl rfl rest hG11.out rfl rfl rfl hR11.out (by omega) ?_; intro v12 w12 hG12 hg12; obtain ⟨L12, hL12⟩ : ∃ L12, B ++ rest = L12 := ⟨_, rfl⟩; rw [hL12] at hG12; have hl12 : L12.length ≤ 100000 := (by rw [← hL12, List.length_append]; omega); replace hL12 := Lib.hid hL12; obtain ⟨A12, c12, rfl, -⟩ := Rd.own hG12.own; replace hG12 := Lib.hid hG12; clear hg12))
                    have hb12 := (hRr10.out _ _ _ hG12.out).1
                    have hD12 := hD10.out.below hb12
                    have hB12 : Below W0.heap.size W0 w12 := Below.next (Below.next hB9.out hB9s hb10.out) (Below.next hB9.out hB9s hb10.out).size hb12
                    have how12 := own_below (own_below how9.out hb10.out) hb12
                    have hW12 := write_any zero hD12 L12 A12 c12 (Rd.own hG12.out.own) (fun _ j hj e => by have h1 := (World.ownsRow.lt hG12.out.own j hj).1; omega) (by omega)
                    unfold WriteR at hW12
                    rw [← hL12.out, hall.out] at hW12
                    rw [hL12.out] at hW12
                    simp only [hsb] at hW12
                    simp only [show errV ((0 : Nat) : Int) = .nilIface from rfl] at hW12
                    replace hW12 := Lib.hid hW12
                    replace hB12 := Lib.hid hB12
                    replace how12 := Lib.hid how12
                    replace hb12 := Lib.hid hb12
                    clear hD12
                    refine hW12.out.mono ?_
                    rintro e w13 ⟨v13, F13, rfl, ho13, -, hD13, -, hk13⟩
                    have how13 := Own.kp how12.out (fun j hj e => by have := hwlt.out j hj; omega) hk13
                    have hby := bytes_rd w13 (Rd.own ho13) (Rd.own how13)
                    rw [decide_eq_true rfl] at hby
                    have hdn := cdone_any hD13
                    rw [decide_eq_true hs8] at hdn
                    have hB13 : Below W0.heap.size W0 w13 := hB12.out.trans (hk13.toBelow hB12.out.size (fun j e => by rw [e]; exact hB9s))
                    obtain ⟨A13, c13, rfl, -⟩ := Rd.own ho13
                    replace hby := Lib.hid hby
                    replace hdn := Lib.hid hdn
                    replace hB13 := Lib.hid hB13
                    clear ho13 how13 hk13 hD13
                    go_wp2_with fail
                    refine hby.out.mono ?_
                    rintro e w14 ⟨rfl, rfl⟩
                    go_wp2_with fail
                    refine hdn.out.mono ?_
                    rintro e w14 ⟨rfl, rfl⟩
                    go_wp2
                    go_ret
                    exact ⟨rfl, hB13.out⟩
      · have hB0 : encB ps l = [] := by unfold encB; rw [hev]; rfl
        rw [hev, errV_ne (by decide), hB0] at hE4
        replace hev := Lib.hid hev
        replace hB0 := Lib.hid hB0
        go_wp2_with fail
        refine hE4.out.mono ?_
        rintro e w5 ⟨v5, rfl, ho5, hb5⟩
        have hB5 := Lib.hid (Below.next hB4.out hB4.out.size hb5)
        obtain ⟨A5, c5, rfl, -⟩ := Rd.own ho5
        clear hb5 ho5
        go_wp2
        go_ret
        exact ⟨rfl, hB5.out⟩
end Go.Proofs.YtbegpdhkjfdjbaaDoor
