/-
  Layer 5: the walk of HeadReturns.
-/
import Derived.Test.YtemlnmelicnneaaDoorHRetP
import Derived.Test.YtemlnmelicnneaaDoorHBack
namespace Go.Proofs.YtemlnmelicnneaaDoor
open Go.RowKit Syn Fr Hd Ck

namespace Hd
/-- A field as the law wants it. -/
def finF (p : List UInt8 × List UInt8) : List UInt8 × List UInt8 := if Syn.lower p.1 = hostN then (Syn.lower p.1, Syn.lower p.2) else (Syn.lower p.1, p.2)
theorem wqL_fin {l : List (List UInt8 × List UInt8)} {h : List UInt8} (hok : okCs l = true) (hx : hsX l = some h) : wqL l = l.map finF := by
  obtain ⟨x, hv, rfl⟩ := hsX_val hx
  rw [(wq_fields hok hx).1]
  unfold can
  rw [List.map_map]
  refine List.map_congr_left fun p hp => ?_
  have h1 := ((okC_iff p.1 p.2).1 (List.all_eq_true.1 hok p hp)).1
  have hn := (nmE_tok h1).2.2
  show rep hostN (Syn.lower x) (nmV p.1, p.2) = finF p
  rw [hn]
  unfold rep finF
  show (if Syn.lower (Syn.lower p.1) = hostN then _ else _) = _
  rw [lower_lower]
  by_cases he : Syn.lower p.1 = hostN
  · rw [if_pos he, if_pos he]
    obtain ⟨k, hk, rfl⟩ := List.mem_iff_getElem.1 hp
    have := allV_at hk he
    rw [hv, List.mem_singleton] at this
    rw [he, this]
  · rw [if_neg he, if_neg he]
theorem wqE_ok {m t : List UInt8} {l : List (List UInt8 × List UInt8)} (h : wqE m t l = 0) : okCs l = true ∧ (∃ h, hsX l = some h) ∧ (wqB m t l).length ≤ 9000 := by
  have hB : wqB m t l = headB (wqS m t) (wqL l) := by unfold wqB; rw [if_pos h]
  have hw := h
  unfold wqE at hw
  split at hw
  · cases hw
  · next h1 =>
    split at hw
    · cases hw
    · split at hw
      · cases hw
      · split at hw
        · cases hw
        · next h4 =>
          split at hw
          · cases hw
          · next h5 =>
            have hok : okCs l = true := by cases hh : okCs l with
              | true => rfl
              | false => exact absurd hh h4
            obtain ⟨x, hx⟩ : ∃ x, hsX l = some x := by
              cases hh : hsX l with
              | none => exact absurd hh h5
              | some x => exact ⟨x, rfl⟩
            refine ⟨hok, ⟨x, hx⟩, ?_⟩
            have hln := (wq_fields hok hx).2.2.2.2.1
            unfold largeB at h1
            rw [Bool.or_eq_true, decide_eq_true_eq, decide_eq_true_eq] at h1
            have e1 : (wqS m t).length = m.length + t.length + 10 := by unfold wqS; simp only [List.length_append, List.length_cons, List.length_nil]; omega
            rw [hB]
            unfold headB
            rw [List.length_append, List.length_append, List.length_append, e1, hln]
            show _ + 2 + _ + 2 ≤ _
            omega
theorem prs_app (a b : List (List UInt8 × List UInt8)) : prs (a ++ b) = prs a ++ prs b := List.flatMap_append
theorem own_g {w : World} {B n cap : Nat} {t : TypeId} {A : Option Addr} {xs : List Value} (h : Own w B t 2 (.slice A n cap) n xs) (hn : 0 < n) : ∃ g, A = some ⟨g, 0, none⟩ ∧ B ≤ g ∧ ∀ j u, xs[j]? = some u → w.cell? ⟨g, j, none⟩ = some u ∧ w.frozen? ⟨g, j, none⟩ = false := by
  obtain ⟨hl, h⟩ := h
  rcases h with ⟨h1, -⟩ | ⟨g', cap', cur, e, hB, hg, hnc, hm, hs, ht⟩
  · cases h1; omega
  · cases e
    have hb : Blk w g' t cur := hg
    refine ⟨g', rfl, hB, fun j u hu => ⟨?_, hb.frozen j⟩⟩
    rw [hb.cell j]
    have hj : j < xs.length := by
      rcases Nat.lt_or_ge j xs.length with h | h
      · exact h
      · rw [List.getElem?_eq_none h] at hu; cases hu
    rw [← ht, List.getElem?_take, if_pos (by omega), Array.getElem?_toList] at hu
    exact hu
theorem own_setc {w : World} {B n cap g : Nat} {t : TypeId} {xs : List Value} (h : Own w B t 2 (.slice (some ⟨g, 0, none⟩) n cap) n xs) (k : Nat) (u : Value) : Own (w.setCell ⟨g, k, none⟩ u) B t 2 (.slice (some ⟨g, 0, none⟩) n cap) n (xs.set k u) := by
  obtain ⟨hl, h⟩ := h
  rcases h with ⟨h1, -⟩ | ⟨g', cap', cur, e, hB, hg, hnc, hm, hs, ht⟩
  · cases h1
  · cases e
    have hb : Blk w g t cur := hg
    have hb2 := hb.set_ k u
    refine ⟨by rw [List.length_set]; exact hl, .inr ⟨g, cap, _, rfl, hB, hb2, hnc, hm, by rw [Array.size_setIfInBounds]; exact hs, ?_⟩⟩
    rw [Array.toList_setIfInBounds, List.take_set, ht]
theorem cells_at {w : World} {g k : Nat} {A C : List (List UInt8 × List UInt8)} {q : List UInt8 × List UInt8} {X : List (List UInt8 × List UInt8)} (h : ∀ j u, (prs X)[j]? = some u → w.cell? ⟨g, j, none⟩ = some u ∧ w.frozen? ⟨g, j, none⟩ = false) (hX : X = A ++ q :: C) (hA : A.length = k) :
    w.cell? ⟨g, k * 2, none⟩ = some (.string (str q.1)) ∧ w.cell? ⟨g, k * 2 + 1, none⟩ = some (.string (str q.2)) ∧ w.frozen? ⟨g, k * 2 + 1, none⟩ = false := by
  subst hX
  have hk : k < (A ++ q :: C).length := by rw [List.length_append, List.length_cons]; omega
  have e : (A ++ q :: C)[k] = q := by
    rw [List.getElem_append_right (by omega)]; simp [hA]
  have h0 := prs_at0 hk
  have h1 := prs_at1 hk
  rw [e] at h0 h1
  exact ⟨(h _ _ h0).1, h _ _ h1⟩
theorem own_setv {w : World} {B n cap g k : Nat} {t : TypeId} {A C : List (List UInt8 × List UInt8)} {q : List UInt8 × List UInt8} {X : List (List UInt8 × List UInt8)} (h : Own w B t 2 (.slice (some ⟨g, 0, none⟩) n cap) n (prs X)) (hX : X = A ++ q :: C) (hA : A.length = k) (v : List UInt8) :
    ∀ w', Own w' B t 2 (.slice (some ⟨g, 0, none⟩) n cap) n (prs X) → Own (w'.setCell ⟨g, k * 2 + 1, none⟩ (.string (str v))) B t 2 (.slice (some ⟨g, 0, none⟩) n cap) n (prs (A ++ (q.1, v) :: C)) := by
  intro w' h'
  subst hX
  have := own_setc h' (k * 2 + 1) (.string (str v))
  have e : (prs (A ++ q :: C)).set (k * 2 + 1) (.string (str v)) = prs (A ++ (q.1, v) :: C) := by
    rw [prs_app, prs_app, List.set_append_right _ _ (by rw [prs_length]; omega), prs_length, hA, show k * 2 + 1 - k * 2 = 1 by omega]
    rfl
  rw [e] at this
  exact this
end Hd
set_option maxRecDepth 100000 in
set_option maxHeartbeats 16000000 in
theorem ret_walk (m t : List UInt8) (l : List (List UInt8 × List UInt8)) (v : Value) (rst : List UInt8) (w : World) (hml : m.length ≤ 140737488355328) (htl : t.length ≤ 140737488355328) (hrs : rst.length ≤ 140737488355328) (hR : Rd w 2 v l.length (prs l)) (hbig : ∀ p ∈ l, p.1.length ≤ 140737488355328 ∧ p.2.length ≤ 140737488355328) (hlm : l.length ≤ 140737488355328) (hT : Tab10 w) (hM : MaxL w) :
    Calls Tryd.prog 7 #[.agg #[.string (str m), .string (str t), v], .string (str rst)] w fun e w' => e = .returned (.bool true) ∧ Below w.heap.size w w' := by
  obtain ⟨A, cap, rfl, hcap, -, -⟩ := id hR
  obtain ⟨G, hG⟩ : ∃ G, w.heap.size = G := ⟨_, rfl⟩
  have hFt := Lib.hid (fun w (h : Rd w 2 (.slice A l.length cap) l.length (prs l)) => hfits_any l _ w h hbig hlm)
  replace hR := Lib.hid hR
  replace hbig := Lib.hid hbig
  have hAw := Lib.hid (fun w' (hb : Below w.heap.size w w') => hawake_any w' (hT.below hb))
  replace hT := Lib.hid hT
  replace hM := Lib.hid hM
  have zr := str_size rst
  have zm := str_size m
  have zt := str_size t
  have hRsx := Lib.hid (fun w (hl : l.length ≤ 100) h => request_any l (.string (str m)) (.string (str t)) (.slice A l.length cap) w ⟨_, rfl⟩ ⟨_, rfl⟩ hl h)
  have hWrx := Lib.hid (fun v w hmt hs hm h => wreq_any m t l v w hmt h hs hm)
  obtain ⟨sm, hsm⟩ : ∃ s, str m = s := ⟨_, rfl⟩
  obtain ⟨sd, hsd⟩ : ∃ s, str t = s := ⟨_, rfl⟩
  rw [hsm] at zm hRsx hWrx ⊢
  rw [hsd] at zt hRsx hWrx ⊢
  replace hsm := Lib.hid hsm
  replace hsd := Lib.hid hsd
  obtain ⟨sr, hsr⟩ : ∃ s, str rst = s := ⟨_, rfl⟩
  rw [hsr] at zr ⊢
  replace hsr := Lib.hid hsr
  go_enter Tryd.func7, Tryd.ntmps7
  go_wp2_with fail
  have hA := Blk.new w 43 #[.string sm, .string sd, .slice A l.length cap]
  have hB0 := (Below.refl w.heap.size w).alloc (Nat.le_refl _) (.cells #[.string sm, .string sd, .slice A l.length cap] 43)
  rw [hG] at hA
  generalize w.alloc (.cells #[.string sm, .string sd, .slice A l.length cap] 43) = w0 at *
  refine (hAw.out _ hB0).mono ?_
  rintro e w1 ⟨rfl, hb1⟩
  have hA1 := hA.below hb1
  have hB1 := Lib.hid (Below.next hB0 hB0.size hb1)
  have hR1 := Lib.hid (hR.out.below hB1.out)
  have c0 : w1.cell? ⟨G, 0, none⟩ = some (.string sm) := hA1.cell 0
  have c1 : w1.cell? ⟨G, 1, none⟩ = some (.string sd) := hA1.cell 1
  have c2 : w1.cell? ⟨G, 2, none⟩ = some (.slice A l.length cap) := hA1.cell 2
  replace hA1 := Lib.hid hA1
  clear hb1 hA hB0
  go_wp2_with fail
  refine (hFt.out _ hR1.out).mono ?_
  rintro e w2 ⟨b, rfl, hfew, nd, rfl⟩
  have hB1n := Lib.hid (below_drewN hB1.out nd)
  cases b
  · clear hfew
    go_wp2_with fail
    refine (hAw.out _ hB1n.out).mono ?_
    rintro e w3 ⟨rfl, hb3⟩
    have hB3 := Lib.hid (Below.next hB1n.out hB1n.out.size hb3)
    clear hb3
    go_wp2
    go_ret
    exact ⟨rfl, hB3.out⟩
  · obtain ⟨h80, hbk⟩ := hfew rfl
    clear hfew
    by_cases hrl : 20000 < m.length + t.length + rst.length
    · go_wp2_with fail
      refine (hAw.out _ hB1n.out).mono ?_
      rintro e w3 ⟨rfl, hb3⟩
      have hB3 := Lib.hid (Below.next hB1n.out hB1n.out.size hb3)
      clear hb3
      go_wp2
      go_ret
      exact ⟨rfl, hB3.out⟩
    · have hs : ∀ p ∈ l, p.1.length ≤ 1000000 ∧ p.2.length ≤ 1000000 := fun p hp => by have := bulk_mem hp; omega
      have hRs := Lib.hid (fun w h => hRsx.out w (by omega) h)
      have hWr := Lib.hid (fun v w h => hWrx.out v w (by omega) hs (by omega) h)
      have hLo := Lib.hid (fun w h => hlower_any l (.slice A l.length cap) w hs (by omega) h)
      replace hs := Lib.hid hs
      by_cases hz : wqE m t l = 0
      · obtain ⟨hok, ⟨hx0, hxv⟩, hwl⟩ := wqE_ok hz
        obtain ⟨b1, b2, b3, b5, b4⟩ := req_back rst hz
        have hwb0 : wqE m t l = 0 → Hid (wqE m t l = 0) := Lib.hid
        generalize hwb : wqB m t l = wb at *
        replace hok := Lib.hid hok
        go_wp2_with fail
        refine (hRs.out _ (hR1.out.drewN nd)).mono ?_
        rintro e w3 ⟨o, rfl, hR3, hb3⟩
        obtain ⟨B, cap', rfl, -, -, -⟩ := id hR3
        have hb3' : Below w1.heap.size w1 w3 := ⟨hb3.os, hb3.tape, hb3.output, hb3.size, hb3.block⟩
        have hA3 := Lib.hid (hA1.out.below hb3')
        have hB3 := Lib.hid (Below.next hB1.out hB1.out.size hb3')
        clear hb3 hb3' c0 c1 c2
        have hx := hWr.out _ _ hR3
        unfold WqR at hx
        rw [hz, hwb, errV_zero] at hx
        replace hz := Lib.hid hz
        replace hwb := Lib.hid hwb
        replace hx := Lib.hid hx
        clear hR3 hwb0
        go_wp2_with fail
        refine hx.out.mono ?_
        rintro e w4 ⟨o4, rfl, ho4, hb4⟩
        obtain ⟨A4, c4, rfl, hc4, hr4⟩ := ownM_form ho4
        have hA4 := Lib.hid (hA3.out.below hb4)
        have hB4 := Lib.hid (Below.next hB3.out hB3.out.size hb4)
        clear hb4 hx hc4
        replace ho4 := Lib.hid ho4
        have hE5 := Lib.hid (ownM_empty w4)
        have hb5 := Lib.hid ((Below.refl w4.heap.size w4).alloc (Nat.le_refl _) (.cells #[] 5))
        have hr5 := Lib.hid (hr4.below hb5.out)
        have hsz5 : w4.heap.size ≤ (w4.alloc (.cells #[] 5)).heap.size := hb5.out.size
        clear hr4
        replace hsz5 := Lib.hid hsz5
        go_wp2_with (at_builtin; first
          | (refine step_pushM _ _ rfl rfl wb hE5.out rfl rfl rfl hr5.out (by simp; omega) hsz5.out ?_; intro v5 w5 ho5 hb5'; have hb6 := Lib.hid (hb5.out.trans hb5'); have hs6 := Lib.hid hb6.out.size; replace ho5 := Lib.hid ho5; clear hb5')
          | (refine step_pushSM _ _ rfl rfl rst ho5.out rfl rfl hsr.out.symm (by simp; omega) hs6.out ?_; intro v6 w6 ho6 hb6'; have hb7 := Lib.hid (hb6.out.trans hb6'); obtain ⟨T, hTT⟩ : ∃ T, wb ++ rst = T := ⟨_, rfl⟩; rw [List.nil_append, hTT] at ho6; obtain ⟨A6, c6, rfl, hc6, hr6⟩ := ownM_form ho6; clear hb6' ho6))
        rw [hTT] at b1 b2 b3 b4 b5
        have hTl : T.length ≤ 1000000 := by rw [← hTT, List.length_append]; omega
        have hB6 := Lib.hid (Below.next hB4.out hB4.out.size hb7.out)
        have hA6 := Lib.hid (hA4.out.below hb7.out)
        have hRd := Lib.hid (rdreq_any T A6 c6 w6 hr6 hTl hc6 (hM.out.below hB6.out))
        unfold RqR at hRd
        have hwf := wq_fields hok.out hxv
        have hlw : (wqL l).length = l.length := hwf.2.2.2.2.2
        rw [b1, b2, b3, b4, b5, hsm.out, hsd.out] at hRd
        have hwr := Lib.hid (wqL_fin hok.out hxv)
        replace hTT := Lib.hid hTT
        clear b1 b2 b3 b4 b5 hr6 hc6 ho4 ho5 hE5 hb5 hr5 hsz5 hs6 hb6 hA3 hA4 hRs hWr hwf
        refine hRd.out.mono ?_
        rintro e w7 ⟨h7, hb8⟩
        obtain ⟨o7, rfl, hr7⟩ : ∃ o, e = .returned (.tuple #[.agg #[.string sm, .string sd, o], .int .i64 (wb.length : Int), .nilIface]) ∧ Rd w7 2 o l.length (prs (wqL l)) := by
          rcases h7 with ⟨h7, -⟩ | ⟨-, o, h7, h8⟩
          · exact absurd rfl h7
          · rw [hlw] at h8; exact ⟨o, h7, h8⟩
        replace hlw := Lib.hid hlw
        obtain ⟨A7, c7, rfl, -, -, -⟩ := id hr7
        have hB7 := Below.next hB6.out hB6.out.size hb8
        have hA7 := hA6.out.below hb8
        have hL8 := Blk.new w7 46 #[.string sm, .string sd, .slice A7 l.length c7]
        have hK8 := hA7.alloc (.cells #[.string sm, .string sd, .slice A7 l.length c7] 46)
        have hB8 := hB7.alloc hB7.size (.cells #[.string sm, .string sd, .slice A7 l.length c7] 46)
        have hr8 := hr7.below ((Below.refl w7.heap.size w7).alloc (Nat.le_refl _) (.cells #[.string sm, .string sd, .slice A7 l.length c7] 46))
        clear h7 hb8 hRd hr7 hB7 hA7
        replace hr8 := Lib.hid hr8
        replace hB8 := Lib.hid hB8
        go_upto_region 7 with (fail)
        generalize hg7 : w7.heap.size = g7 at *
        generalize w7.alloc (.cells #[.string sm, .string sd, .slice A7 l.length c7] 46) = w8 at *
        replace hg7 := Lib.hid hg7
        have x0 := hL8.cell 0
        have x1 := hL8.cell 1
        have x2 := hL8.cell 2
        have y0 := hK8.cell 0
        have y1 := hK8.cell 1
        have y2 := hK8.cell 2
        have qm : (sm.toList == sm.toList) = true := beq_self_eq_true _
        have qd : (sd.toList == sd.toList) = true := beq_self_eq_true _
        replace hL8 := Lib.hid hL8
        replace hK8 := Lib.hid hK8
        have hR8 := Lib.hid (hR.out.below hB8.out)
        go_wp2_with fail
        refine (hLo.out _ hR8.out).mono ?_
        rintro e w9 ⟨o9, rfl, ho9, hb9⟩
        have hB9 := Lib.hid (Below.next hB8.out hB8.out.size hb9)
        have hL9 := Lib.hid (hL8.out.below hb9)
        have hr9 := Lib.hid (hr8.out.below hb9)
        obtain ⟨A9, c9, rfl, -, -, -⟩ := Rd.own ho9
        obtain ⟨S8, hS8⟩ : ∃ S, w8.heap.size = S := ⟨_, rfl⟩
        rw [hS8] at ho9 hb9
        have hs8 : Hid (w.heap.size ≤ S8) := Lib.hid (by rw [← hS8]; exact hB8.out.size)
        have hg8 : Hid (g7 < S8) := Lib.hid (by rw [← hS8]; exact hL8.out.lt)
        have hr8l := Lib.hid (fun w' (hb : Below S8 w8 w') => hr8.out.below (by rw [hS8]; exact hb))
        have hL8l := Lib.hid (fun w' (hb : Below S8 w8 w') => hL8.out.below (by rw [hS8]; exact hb))
        replace hS8 := Lib.hid hS8
        replace ho9 := Lib.hid ho9
        replace hb9 := Lib.hid hb9
        clear x0 x1 x2 y0 y1 y2
        go_wp2
        go_loopw [10] (fun i wr => ∃ k : Nat, i = .int .i64 (k : Int) ∧ k ≤ l.length ∧ Hid (Own wr S8 62 2 (.slice A9 l.length c9) l.length (prs ((l.take k).map finF ++ (l.drop k).map lwr))) ∧ Hid (Below S8 w8 wr) ∧ Hid (Below w.heap.size w wr)) (fun i _ => l.length - (intOf i).toNat)
        case atStart => exact ⟨0, rfl, by omega, Lib.hid ho9.out, Lib.hid hb9.out, Lib.hid hB9.out⟩
        case round =>
          obtain ⟨k, rfl, hk, ho, hB, hBw⟩ := hrel
          by_cases hlt : k < l.length
          · obtain ⟨g, rfl, hgS, hcel⟩ := own_g ho.out (by omega)
            have hAl : ((l.take k).map finF).length = k := by rw [List.length_map, List.length_take]; omega
            have hdr : (l.drop k).map lwr = lwr l[k] :: (l.drop (k + 1)).map lwr := by rw [List.drop_eq_getElem_cons hlt]; rfl
            have htk : (l.take (k + 1)).map finF = (l.take k).map finF ++ [finF l[k]] := by rw [List.take_succ_eq_append_getElem hlt, List.map_append]; rfl
            obtain ⟨d0, d1, f1⟩ := cells_at (A := (l.take k).map finF) (C := (l.drop (k + 1)).map lwr) (q := lwr l[k]) hcel (by rw [hdr]) hAl
            have hsh := hs.out l[k] (List.getElem_mem hlt)
            have hso := fun (vv : List UInt8) => own_setv (A := (l.take k).map finF) (C := (l.drop (k + 1)).map lwr) (q := lwr l[k]) ho.out (by rw [hdr]) hAl vv
            have hfin : (l.take (k + 1)).map finF ++ (l.drop (k + 1)).map lwr = (l.take k).map finF ++ finF l[k] :: (l.drop (k + 1)).map lwr := by rw [htk, List.append_assoc]; rfl
            generalize l[k] = p at *
            obtain ⟨n, vv⟩ := p
            simp only [lwr] at d0 d1 hso hsh
            have hq : ((str (Syn.lower n)).toList == [104, 111, 115, 116]) = decide (Syn.lower n = hostN) := by rw [lit_beq, bs_str]; rfl
            have hLw := Lib.hid (fun w => rlower_any (str vv) w (by rw [str_size]; exact hsh.2))
            rw [bs_str] at hLw
            replace hsh := Lib.hid hsh
            replace hcel := Lib.hid hcel
            replace hAl := Lib.hid hAl
            replace htk := Lib.hid htk
            by_cases he : Syn.lower n = hostN
            · rw [decide_eq_true he] at hq
              have hfp : finF (n, vv) = (Syn.lower n, Syn.lower vv) := if_pos he
              rw [hfp] at hfin
              replace hdr := Lib.hid hdr
              replace he := Lib.hid he
              replace hfp := Lib.hid hfp
              replace hfin := Lib.hid hfin
              replace hso := Lib.hid hso
              have hBs : S8 ≤ wr.heap.size := by have := hB.out.size; rw [hS8.out] at this; exact this
              replace hBs := Lib.hid hBs
              have hgS2 := Lib.hid hgS
              clear hgS
              generalize hsl : str (Syn.lower n) = sl at *
              replace hsl := Lib.hid hsl
              go_wp2_with fail
              refine (hLw.out _).mono ?_
              rintro e w10 ⟨rfl, hb10⟩
              have ho10 := own_below ho.out hb10
              obtain ⟨g', hgg, -, hc10⟩ := own_g ho10 (by omega)
              cases hgg
              obtain ⟨-, e1, e2⟩ := cells_at (A := (l.take k).map finF) (C := (l.drop (k + 1)).map lwr) (q := lwr (n, vv)) hc10 (by rw [hdr.out]) hAl.out
              have hst := hso.out (Syn.lower vv) w10 ho10
              simp only [lwr] at e1 e2 hst
              have hB10 := Lib.hid ((Below.next hB.out hBs.out hb10).setCell (p := ⟨g, k * 2 + 1, none⟩) hgS2.out (.string (str (Syn.lower vv))))
              have hBw10 := Lib.hid ((Below.next hBw.out (Nat.le_trans hs8.out hBs.out) hb10).setCell (p := ⟨g, k * 2 + 1, none⟩) (Nat.le_trans hs8.out hgS2.out) (.string (str (Syn.lower vv))))
              replace hst := Lib.hid hst
              clear hb10 ho10 hc10 d0 d1 f1
              go_wp2
              go_roundw
              case rel => exact ⟨k + 1, by go_num, by omega, Lib.hid (by rw [hfin.out]; exact hst.out), hB10, hBw10⟩
              case measure => simp only [intOf]; omega
            · rw [decide_eq_false he] at hq
              have hfp : finF (n, vv) = (Syn.lower n, vv) := if_neg he
              rw [hfp] at hfin
              have hst := Lib.hid (show Own wr S8 62 2 (.slice (some ⟨g, 0, none⟩) l.length c9) l.length (prs ((l.take (k + 1)).map finF ++ (l.drop (k + 1)).map lwr)) by
                rw [hfin]; rw [hdr] at ho; exact ho.out)
              replace hfin := Lib.hid hfin
              replace hdr := Lib.hid hdr
              replace he := Lib.hid he
              replace hfp := Lib.hid hfp
              clear hso
              go_wp2
              go_roundw
              case rel => exact ⟨k + 1, by go_num, by omega, hst, hB, hBw⟩
              case measure => simp only [intOf]; omega
          · obtain rfl : k = l.length := by omega
            have ho' := ho.out
            rw [List.take_length, List.drop_length, List.map_nil, List.append_nil] at ho'
            have x2 := (hL8l.out wr hB.out).cell 2
            have h1 := hr8l.out wr hB.out
            rw [hwr.out] at h1
            have hAre := Lib.hid (are_any (l1 := l.map finF) (l2 := l.map finF) (v1 := .slice A7 l.length c7) (v2 := .slice A9 l.length c9) wr (by rw [List.length_map]; exact h1) (by rw [List.length_map]; exact Rd.own ho') rfl (by rw [List.length_map]; omega))
            clear h1 ho'
            go_wp2_with fail
            refine hAre.out.mono ?_
            rintro e w11 ⟨rfl, n11, rfl⟩
            have hF := Lib.hid (below_drewN hBw.out n11)
            go_wp2
            go_ret
            exact ⟨rfl, hF.out⟩
      · go_wp2_with fail
        refine (hRs.out _ (hR1.out.drewN nd)).mono ?_
        rintro e w3 ⟨o, rfl, hR3, hb3⟩
        obtain ⟨B, cap', rfl, -, -, -⟩ := id hR3
        have hb3' : Below w1.heap.size w1 w3 := ⟨hb3.os, hb3.tape, hb3.output, hb3.size, hb3.block⟩
        have hB3 := Lib.hid (Below.next hB1.out hB1.out.size hb3')
        clear hb3 hb3' c0 c1 c2
        have hx := hWr.out _ _ hR3
        unfold WqR at hx
        rw [herr_ne hz, show wqB m t l = [] from by unfold wqB; rw [if_neg hz]] at hx
        generalize wqE m t l = en at *
        replace hz := Lib.hid hz
        replace hx := Lib.hid hx
        clear hR3
        go_wp2_with fail
        refine hx.out.mono ?_
        rintro e w4 ⟨o4, rfl, ho4, hb4⟩
        obtain ⟨A4, c4, rfl, -, -⟩ := ownM_form ho4
        have hB4 := Lib.hid (Below.next hB3.out hB3.out.size hb4)
        clear hb4 hx ho4
        go_wp2
        go_ret
        exact ⟨rfl, hB4.out⟩
end Go.Proofs.YtemlnmelicnneaaDoor
