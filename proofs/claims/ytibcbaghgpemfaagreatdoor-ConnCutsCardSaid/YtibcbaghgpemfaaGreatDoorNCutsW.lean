/-
  Layer 8: the walk of ConnCuts.
-/
import Derived.Test.YtibcbaghgpemfaaGreatDoorNCutsP
import Derived.Test.YtibcbaghgpemfaaGreatDoorNClose
import Derived.Test.YtibcbaghgpemfaaGreatDoorDSame
import Derived.Deep.RegionHeld3
namespace Go.Proofs.YtibcbaghgpemfaaGreatDoor
open Go.RowKit Syn Hd Fr Ck
set_option maxRecDepth 100000 in
set_option maxHeartbeats 16000000 in
theorem cuts_walk (r : Bool) (ms : List (List UInt8)) (A : Option Addr) (cap : Nat) (s : List UInt8) (w : World) (hR : Rd w 1 (.slice A ms.length cap) ms.length (strs ms)) (hM : MaxL w) :
    Calls Tryz.prog 11 #[.agg #[.bool r, .slice A ms.length cap], .string (str s)] w fun e w' => e = .returned (.bool true) ∧ Below w.heap.size w w' := by
  have hAw := Lib.hid (fun w hM => cnawake_any w hM)
  replace hM := Lib.hid hM
  replace hR := Lib.hid hR
  go_enter Tryz.func11, Tryz.ntmps11
  go_wp2_with fail
  have hX := Blk.new w 89 #[.bool r, .slice A ms.length cap]
  have hB0 := (Below.refl w.heap.size w).alloc (Nat.le_refl _) (.cells #[.bool r, .slice A ms.length cap] 89)
  obtain ⟨G, hG⟩ : ∃ G, w.heap.size = G := ⟨_, rfl⟩
  rw [hG] at hX ⊢
  generalize w.alloc (.cells #[.bool r, .slice A ms.length cap] 89) = w0 at *
  have hGB := hB0.size
  replace hB0 := Lib.hid hB0
  replace hX := Lib.hid hX
  refine (hAw.out w0 (hM.out.below hB0.out)).mono ?_
  rintro e w1 ⟨rfl, hb1⟩
  have hB1 := Lib.hid (hB0.out.trans (hb1.mono hGB))
  have hM1 := Lib.hid (hM.out.below hB1.out)
  have hX1 := Lib.hid (hX.out.below hb1)
  have c0 := hX1.out.cell 0
  have c1 := hX1.out.cell 1
  clear hb1
  have hend : ∀ w2 : World, Below w.heap.size w w2 → MaxL w2 → Calls Tryz.prog 34 #[] w2 fun e w' => e = .returned (.bool true) ∧ Below w.heap.size w w' := fun w2 hb hm => by
    refine (hAw.out w2 hm).mono ?_
    rintro e w3 ⟨rfl, hb3⟩
    exact ⟨rfl, hb.trans (hb3.mono hb.size)⟩
  replace hend := Lib.hid hend
  go_wp2_with fail
  rotate_left 1
  · have hsz : s.length ≤ 2000 ∧ ms.length ≤ 70 := by
      have h : ((str s).size : Int) ≤ 2000 ∧ (ms.length : Int) ≤ 70 := by assumption
      rw [str_size] at h
      omega
    obtain ⟨hs2, hm70⟩ := hsz
    have hMd := Lib.hid (fun w' (hb : Below w1.heap.size w1 w') => made_any r ms A cap w' ((hR.out.below hB1.out).below hb) (by omega))
    have hS : ∀ w', Below w1.heap.size w1 w' → w'.cell? ⟨G, 0, none⟩ = some (.bool r) ∧ w'.cell? ⟨G, 1, none⟩ = some (.slice A ms.length cap) := fun w' hb => ⟨(hX1.out.below hb).cell 0, (hX1.out.below hb).cell 1⟩
    replace hS := Lib.hid hS
    have hb10 := Lib.hid (Below.refl w1.heap.size w1)
    replace hs2 := Lib.hid hs2
    replace hm70 := Lib.hid hm70
    go_wp2_with fail
    go_region_held3 (fun w' => w'.cell? ⟨G, 0, none⟩ = some (.bool r) ∧ w'.cell? ⟨G, 1, none⟩ = some (.slice A ms.length cap))
      (first | exact hS.out _ (by first | with_reducible exact Below.refl _ _ | with_reducible exact (Below.refl _ _).drew | with_reducible exact hb13.out | with_reducible exact hb12.out))
      (first
        | (go_at_call 40; (first | with_reducible refine Calls.mono (hMd.out w1 hb10.out) ?_ | with_reducible refine Calls.mono (hMd.out w1.drew hb10.out.drew) ?_); rintro e w2 ⟨ga, Fa, rfl, hAa, hFa, hba⟩; have hb12 : Below w1.heap.size w1 w2 := (by first | exact hba | exact below_of_drew hba); replace hb12 := Lib.hid hb12; replace hAa := Lib.hid hAa; replace hFa := Lib.hid hFa; clear hba)
        | (go_at_call 40; (first | with_reducible refine Calls.mono (hMd.out w2 hb12.out) ?_ | with_reducible refine Calls.mono (hMd.out w2.drew hb12.out.drew) ?_); rintro e w3 ⟨gb, Fb, rfl, hAb, hFb, hbb⟩; have hb23 : Below w2.heap.size w2 w3 := (by first | exact hbb | exact below_of_drew hbb); have hb13 := Lib.hid (hb12.out.trans (hb23.mono hb12.out.size)); replace hb23 := Lib.hid hb23; replace hAb := Lib.hid hAb; replace hFb := Lib.hid hFb; clear hbb))
    clear c0 c1 hMd hS hX1 hX hG
    rename_i hHeld
    clear hHeld
    generalize (if r = true then ms else []) = M at hAa hAb
    obtain ⟨e1, e2, e3, e4, e5⟩ := Cn.cuts_law r M s
    have hfw := Cn.write_few (Cn.new_few r M) s
    have hcw := Cn.write_cnt (Cn.new r M) s
    have hdw := Cn.write_dsum (Cn.new r M) s
    have hp0 : Cn.pot (Cn.new r M) = 0 := rfl
    have hl0 : (Cn.new r M).buf.length = 0 := rfl
    have hz1 := hB1.out.size
    have hz12 := hb12.out.size
    have hz23 := hb23.out.size
    have hB3 := Lib.hid (hB1.out.trans (hb13.out.mono hz1))
    replace hFa : ∀ k, Fa k → w1.heap.size ≤ k := hFa.out
    have hFaLt : ∀ k, Fa k → k < w2.heap.size := fun k h => hAa.out.2.1 k h
    have hFbLt : ∀ k, Fb k → k < w3.heap.size := fun k h => hAb.out.2.1 k h
    obtain ⟨cf, wf, hcf⟩ := conv_any s
    obtain ⟨hcv, hRb, hbw⟩ := hcf w3
    generalize wf w3 = w4 at hcv hRb hbw
    generalize cf w3 = c4 at hcv hRb
    clear hcf
    have hz34 := hbw.size
    have hB4 := Lib.hid (hB3.out.trans (hbw.mono hB3.out.size))
    have hAa4 := (hAa.out.kp ((Kp.refl (fun _ => False) w2).below hb23.out) (fun _ _ h => h)).kp ((Kp.refl (fun _ => False) w3).below hbw) (fun _ _ h => h)
    have hAb4 := hAb.out.kp ((Kp.refl (fun _ => False) w3).below hbw) (fun _ _ h => h)
    have hW4 := connwrite_any hAa4 s _ _ hRb (by have := hs2.out; rw [hl0]; omega) (fun w' hk => hM.out.below (hB4.out.trans (hk.toBelow hB4.out.size (fun k h => Nat.le_trans hz1 (hFa k h)))))
    generalize hca : Cn.write (Cn.new r M) s = ra at *
    obtain ⟨ca, la⟩ := ra
    replace hW4 := Lib.hid hW4
    replace hAb4 := Lib.hid hAb4
    replace hbw := Lib.hid hbw
    replace hfw := Lib.hid hfw
    replace hcw := Lib.hid hcw
    replace hdw := Lib.hid hdw
    replace hca := Lib.hid hca
    replace e1 := Lib.hid e1
    replace e2 := Lib.hid e2
    replace e3 := Lib.hid e3
    replace e4 := Lib.hid e4
    replace e5 := Lib.hid e5
    replace hFa := Lib.hid hFa
    replace hFaLt := Lib.hid hFaLt
    replace hFbLt := Lib.hid hFbLt
    replace hz1 := Lib.hid hz1
    replace hz12 := Lib.hid hz12
    replace hz23 := Lib.hid hz23
    replace hz34 := Lib.hid hz34
    replace hp0 := Lib.hid hp0
    replace hl0 := Lib.hid hl0
    clear hRb hAa4 hAa hAb
    go_wp2_with fail
    refine hW4.out.mono ?_
    rintro e w5 ⟨ol, Fa', xs, rfl, hE5, hR5, hO5, hFF5, hk5, hA5⟩
    have hB5 := Lib.hid (hB4.out.trans (hk5.toBelow hB4.out.size (fun k h => Nat.le_trans hz1.out (hFa.out k h))))
    have hz45 := hk5.size
    have hFaB : ∀ k, Fa' k → w.heap.size ≤ k := fun k h => (hFF5 k h).elim (fun h => Nat.le_trans hz1.out (hFa.out k h)) (fun h => Nat.le_trans hB4.out.size h)
    have hdis : ∀ k, Fb k → ¬ Fa' k := fun k h h2 => by
      have h3 := hFb.out k h
      have h4 := hFbLt.out k h
      have h5 := hz34.out
      rcases hFF5 k h2 with h6 | h6
      · have := hFaLt.out k h6; omega
      · omega
    have hdis0 : ∀ k, Fb k → ¬ Fa k := fun k h h2 => by
      have h3 := hFb.out k h
      have := hFaLt.out k h2
      omega
    have hAb5 := hAb4.out.kp hk5 hdis0
    have hFa5 : ∀ k, Fa' k → k < w5.heap.size := fun k h => hA5.2.1 k h
    obtain ⟨Al, cl, rfl, -, -, -⟩ := id hR5
    replace hE5 := Lib.hid hE5
    replace hR5 := Lib.hid hR5
    replace hO5 := Lib.hid hO5
    replace hA5 := Lib.hid hA5
    replace hAb5 := Lib.hid hAb5
    replace hdis := Lib.hid hdis
    replace hFaB := Lib.hid hFaB
    replace hFa5 := Lib.hid hFa5
    replace hz45 := Lib.hid hz45
    replace hk5 := Lib.hid hk5
    replace hFF5 := Lib.hid hFF5
    clear hdis0 hW4 hAb4
    have hss : (str s).size = s.length := str_size s
    go_wp2
    go_loopw [9, 10, 11] (fun m code i wr => ∃ (n : Nat) (Fb' : Nat → Prop) (mx : List Value), i = .int .i64 (n : Int) ∧ n ≤ s.length ∧ code = .int .i64 (Cn.feed (Cn.new r M) (Cn.ones (s.take n))).1.err ∧ Hid (Cn.At wr gb Fb' (Cn.feed (Cn.new r M) (Cn.ones (s.take n))).1) ∧ Hid (∀ k, Fb' k → Fb k ∨ w5.heap.size ≤ k) ∧ Hid (Kp Fb w5 wr) ∧
      Hid (Own wr w5.heap.size 79 8 m (Cn.feed (Cn.new r M) (Cn.ones (s.take n))).2.length mx) ∧ Hid (Off Fb' m) ∧ Hid (Cn.EvsC wr (fun k => w5.heap.size ≤ k ∧ k < wr.heap.size ∧ ¬ Fb' k ∧ m.ownBlock ≠ some k) (Cn.feed (Cn.new r M) (Cn.ones (s.take n))).2 mx)) (fun _ _ i _ => s.length - (intOf i).toNat)
    case atStart => exact ⟨0, Fb, [], rfl, by omega, rfl, hAb5, Lib.hid (fun k h => .inl h), Lib.hid (Kp.refl _ _), Lib.hid (own_nil _ _ _ _), Lib.hid (fun k h => by cases h), Lib.hid .nil⟩
    case round =>
      obtain ⟨n, Fb', mx, rfl, hn, rfl, hAn, hFn, hKn, hOn, hOffn, hEn⟩ := hrel
      by_cases hlt : n < s.length
      · have hnx : Cn.feed (Cn.new r M) (Cn.ones (s.take (n + 1))) = ((Cn.write (Cn.feed (Cn.new r M) (Cn.ones (s.take n))).1 [s[n]]).1, (Cn.feed (Cn.new r M) (Cn.ones (s.take n))).2 ++ (Cn.write (Cn.feed (Cn.new r M) (Cn.ones (s.take n))).1 [s[n]]).2) := by rw [Cn.ones_take s hlt, Cn.feed_snoc]
        have hbu := Cn.feed_buf r M (Cn.ones (s.take n))
        have hcn := Cn.feed_cnt (Cn.ones (s.take n)) (Cn.new r M)
        rw [Cn.ones_flat, List.length_take] at hbu hcn
        rw [hp0.out] at hcn
        have hs1 : (str s).extract n (n + 1) = str [s[n]] := by
          rw [extract_str, bs_str, List.take_succ_eq_append_getElem hlt, List.drop_append_of_le_length (by rw [List.length_take]; omega), List.drop_of_length_le (by rw [List.length_take]; omega), List.nil_append]
        generalize Cn.feed (Cn.new r M) (Cn.ones (s.take n)) = fn at *
        obtain ⟨c, lm⟩ := fn
        generalize s[n] = b at *
        have hwc := Cn.write_cnt c [b]
        have hwb : c.err ≠ 0 → Cn.write c [b] = (c, []) := fun h => Cn.write_bad h
        obtain ⟨cf1, wf1, hcf1⟩ := conv_any [b]
        obtain ⟨hcv1, hRb1, hbw1⟩ := hcf1 wr
        rw [← hs1] at hcv1
        generalize wf1 wr = wc at hcv1 hRb1 hbw1
        generalize cf1 wr = cc at hcv1 hRb1
        clear hcf1
        have hs2' := hs2.out
        have hBr := Lib.hid (hB5.out.trans (hKn.out.toBelow hB5.out.size (fun k h => Nat.le_trans (Nat.le_trans hz1.out hz12.out) (hFb.out k h))))
        have hFnB : ∀ k, Fb' k → w.heap.size ≤ k := fun k h => (hFn.out k h).elim (fun h => Nat.le_trans (Nat.le_trans hz1.out hz12.out) (hFb.out k h)) (fun h => Nat.le_trans hB5.out.size h)
        have hBc := Lib.hid (hBr.out.trans (hbw1.mono hBr.out.size))
        have hAc := hAn.out.kp ((Kp.refl (fun _ => False) wr).below hbw1) (fun _ _ h => h)
        have hW1 := connwrite_any hAc [b] _ _ hRb1 (by have h1 : c.buf.length ≤ min n s.length := hbu.1; show c.buf.length + 1 ≤ _; omega) (fun w' hk => hM.out.below (hBc.out.trans (hk.toBelow hBc.out.size hFnB)))
        have hFlt : ∀ k, Fb' k → k < wr.heap.size := fun k h => hAn.out.2.1 k h
        generalize hwn : Cn.write c [b] = rn at *
        obtain ⟨c', one⟩ := rn
        have hlm : lm.length ≤ 4002 := by have h1 := hcn; simp only at h1; omega
        have hone : one.length ≤ 5000 := by
          have h1 := hwc
          have h2 := hbu.1
          simp only [List.length_cons, List.length_nil] at h1 h2
          unfold Cn.pot at h1
          split at h1 <;> split at h1 <;> omega
        replace hW1 := Lib.hid hW1
        replace hnx := Lib.hid hnx
        replace hwb := Lib.hid hwb
        replace hFnB := Lib.hid hFnB
        replace hFlt := Lib.hid hFlt
        replace hwn := Lib.hid hwn
        have hzc := Lib.hid hbw1.size
        replace hbw1 := Lib.hid hbw1
        clear hRb1 hAc hbu hcn hwc hs2' hAn hs1
        go_wp2_with fail
        refine hW1.out.mono ?_
        rintro e w6 ⟨o6, F6, xs6, rfl, hE6, hR6, hO6, hFF6, hk6, hA6⟩
        have hB6 := Lib.hid (hBc.out.trans (hk6.toBelow hBc.out.size hFnB.out))
        have hO6n : Own w6 w5.heap.size 79 8 u9 lm.length mx := (own_below hOn.out hbw1.out).kp hOffn.out hk6
        have hE6n := (hEn.out.kp ((Kp.refl (fun _ => False) wr).below hbw1.out) (fun _ _ h => h)).kp hk6 (fun k hp => hp.2.2.1)
        have hK6 : Kp Fb w5 w6 := (hKn.out.below hbw1.out).next (fun k hlt2 h => (hFn.out k h).elim id (fun h2 => absurd hlt2 (by omega))) hk6
        have hz6 := hk6.size
        have hF6lt : ∀ k, F6 k → k < w6.heap.size := fun k h => hA6.2.1 k h
        have hF6n : ∀ k, F6 k → Fb k ∨ w5.heap.size ≤ k := fun k h => by
          rcases hFF6 k h with h | h
          · exact hFn.out k h
          · have h1 := hKn.out.size
            have h2 := hzc.out
            exact .inr (by omega)
        have hF6m : ∀ k, F6 k → u9.ownBlock ≠ some k := fun k h e => by
          rcases hFF6 k h with h | h
          · exact hOffn.out k e h
          · have h1 := Own.lt hOn.out e
            have h2 := hzc.out
            omega
        have hx6 := hE6.cells1
        obtain ⟨A6, cap6, rfl, -, -, -⟩ := id hR6
        have hNm := Lib.hid (fun (z : Int) w => num_any z w)
        have hlen : (lm ++ one).length = lm.length + one.length := List.length_append
        -- what the round leaves
        have hfin : ∀ (v7 : Value) (w7 : World), Own w7 w5.heap.size 79 8 v7 (lm.length + one.length) (mx ++ xs6) → w6.grownBy w7 u9.ownBlock → (v7.ownBlock = u9.ownBlock ∨ v7.ownBlock = some w6.heap.size) →
            Cn.At w7 gb F6 c' ∧ Kp Fb w5 w7 ∧ Off F6 v7 ∧ Cn.EvsC w7 (fun k => w5.heap.size ≤ k ∧ k < w7.heap.size ∧ ¬ F6 k ∧ v7.ownBlock ≠ some k) (lm ++ one) (mx ++ xs6) := fun v7 w7 ho7 hg7 hat7 => by
          have hK67 : Kp (fun k => u9.ownBlock = some k) w6 w7 := (Kp.refl (fun k => u9.ownBlock = some k) w6).grown hg7 (fun k e _ => e)
          have hz7 := hK67.size
          refine ⟨hA6.kp hK67 hF6m, hK6.grown hg7 (fun k e hlt2 => absurd (World.ownsRow.lt hO6n k e).1 (by omega)), fun k e h => ?_, ((hE6n.kp hK67 (fun k hp e => hp.2.2.2 e)).mono (fun k hp => ?_)).app ((hE6.kp hK67 (fun k hp e => ?_)).mono (fun k hp => ?_))⟩
          · rcases hat7 with h2 | h2
            · exact hF6m k h (h2.symm.trans e)
            · have h3 : k = w6.heap.size := Option.some.inj (e.symm.trans h2)
              have := hF6lt k h
              omega
          · obtain ⟨p1, p2, p3, p4⟩ := hp
            have h2 := hzc.out
            refine ⟨p1, by omega, fun h => ?_, fun e => ?_⟩
            · rcases hFF6 k h with h | h
              · exact p3 h
              · omega
            · rcases hat7 with h3 | h3
              · exact p4 (h3.symm.trans e)
              · have h4 : k = w6.heap.size := Option.some.inj (e.symm.trans h3)
                omega
          · have h1 := Own.lt hOn.out e
            have h2 := hzc.out
            have h3 := hp.1
            omega
          · obtain ⟨p1, p2, p3⟩ := hp
            have h1 := hKn.out.size
            have h2 := hzc.out
            refine ⟨by omega, by omega, p3, fun e => ?_⟩
            rcases hat7 with h3 | h3
            · have h4 := Own.lt hOn.out (h3.symm.trans e)
              omega
            · have h4 : k = w6.heap.size := Option.some.inj (e.symm.trans h3)
              omega
        replace hfin := Lib.hid hfin
        replace hF6n := Lib.hid hF6n
        replace hO6n := Lib.hid hO6n
        replace hR6 := Lib.hid hR6
        replace hx6 := Lib.hid hx6
        replace hlen := Lib.hid hlen
        clear hE6 hO6 hFF6 hk6 hA6 hE6n hK6 hF6lt hF6m hW1
        replace hz6 := Lib.hid hz6
        by_cases h0 : c.err = 0
        · have h0' : (c, lm).1.err = 0 := h0
          rw [h0']
          go_wp2_with (first
            | (at_builtin; refine push_evs (n := lm.length) (m := one.length) (c := cap6) (A := A6) _ _ rfl rfl rfl hO6n.out rfl hR6.out hx6.out (by omega) (by have h1 := hKn.out.size; have h2 := hzc.out; have h3 := hz6.out; omega) ?_; intro v7 w7 ho7 hg7 hat7; obtain ⟨i1, i2, i3, i4⟩ := hfin.out v7 w7 ho7 hg7 hat7; replace i1 := Lib.hid i1; replace i2 := Lib.hid i2; replace i3 := Lib.hid i3; replace i4 := Lib.hid i4; replace ho7 := Lib.hid ho7; clear hg7 hat7)
            | (refine (hNm.out _ _).mono ?_; rintro e wn ⟨rfl, hwn2⟩; subst wn))
          go_roundw
          case rel => exact ⟨n + 1, F6, mx ++ xs6, by go_num, by omega, by rw [hnx.out], Lib.hid (by rw [hnx.out]; exact i1.out), hF6n, i2, Lib.hid (by rw [hnx.out]; show Own _ _ _ _ _ (lm ++ _).length _; rw [hlen.out]; exact ho7.out), i3, Lib.hid (by rw [hnx.out]; exact i4.out)⟩
          case measure => simp [intOf]; omega
        · obtain ⟨hc', ho'⟩ := Prod.mk.inj (hwb.out h0)
          rw [hc'] at hnx hfin ⊢
          have h0' : (c, lm).1.err = c.err := rfl
          rw [h0']
          have hol : one.length = 0 := by rw [ho']; rfl
          rw [hol] at hR6 hfin hlen ⊢
          go_wp2_with (first
            | (at_builtin; refine push_evs (n := lm.length) (m := 0) (c := cap6) (A := A6) _ _ rfl rfl rfl hO6n.out rfl hR6.out hx6.out (by omega) (by have h1 := hKn.out.size; have h2 := hzc.out; have h3 := hz6.out; omega) ?_; intro v7 w7 ho7 hg7 hat7; obtain ⟨i1, i2, i3, i4⟩ := hfin.out v7 w7 ho7 hg7 hat7; replace i1 := Lib.hid i1; replace i2 := Lib.hid i2; replace i3 := Lib.hid i3; replace i4 := Lib.hid i4; replace ho7 := Lib.hid ho7; clear hg7 hat7)
            | (refine (hNm.out _ _).mono ?_; rintro e wn ⟨rfl, hwn2⟩; subst wn))
          go_roundw
          case rel => exact ⟨n + 1, F6, mx ++ xs6, by go_num, by omega, by rw [hnx.out], Lib.hid (by rw [hnx.out]; exact i1.out), hF6n, i2, Lib.hid (by rw [hnx.out]; show Own _ _ _ _ _ (lm ++ _).length _; rw [hlen.out]; exact ho7.out), i3, Lib.hid (by rw [hnx.out]; exact i4.out)⟩
          case measure => simp [intOf]; omega
      · obtain rfl : n = s.length := by omega
        rw [List.take_length] at hAn hOn hEn ⊢
        have hfb := Cn.feed_few (Cn.ones s) _ (Cn.new_few r M)
        have hcb := Cn.feed_cnt (Cn.ones s) (Cn.new r M)
        have hdb := Cn.feed_dsum (Cn.ones s) (Cn.new r M)
        have hbb := Cn.feed_buf r M (Cn.ones s)
        rw [Cn.ones_flat] at hcb hdb hbb
        rw [hp0.out] at hcb
        rw [hl0.out] at hdb
        generalize Cn.feed (Cn.new r M) (Cn.ones s) = fb at *
        obtain ⟨cb, lb⟩ := fb
        have f1 : ca.err = cb.err := e1.out
        have f2 : Cn.joined la = Cn.joined lb := e2.out
        have hs2' := hs2.out
        have kla : la.length ≤ 4002 := by have h := hcw.out; rw [hp0.out] at h; have h1 : la.length + Cn.pot ca ≤ 0 + 2 * s.length := h; omega
        have klb : lb.length ≤ 4002 := by have h1 : lb.length + Cn.pot cb ≤ 0 + 2 * s.length := hcb; omega
        have sla : Cn.dsum la ≤ 4000000 := by have h := hdw.out; rw [hl0.out] at h; have h1 : Cn.dsum la + ca.buf.length ≤ 0 + s.length := h; omega
        have slb : Cn.dsum lb ≤ 4000000 := by have h1 : Cn.dsum lb + cb.buf.length ≤ 0 + s.length := hdb; omega
        have bla : ca.buf.length ≤ 1000000 := by have h := hdw.out; rw [hl0.out] at h; have h1 : Cn.dsum la + ca.buf.length ≤ 0 + s.length := h; omega
        have blb : cb.buf.length ≤ 1000000 := by have h1 : cb.buf.length ≤ s.length := hbb.1; omega
        have fla : ∀ e ∈ la, Cn.EvF e := hfw.out.2
        have flb : ∀ e ∈ lb, Cn.EvF e := hfb.2
        have fcl := Cn.close_few hfw.out.1
        have ncl := Cn.close_cnt ca
        have hBr := Lib.hid (hB5.out.trans (hKn.out.toBelow hB5.out.size (fun k h => Nat.le_trans (Nat.le_trans hz1.out hz12.out) (hFb.out k h))))
        have hAar := hA5.out.kp hKn.out (fun k h h2 => hdis.out k h2 h)
        have hClA := close_any hAar bla
        have g3 : (Cn.close ca).1.err = (Cn.close cb).1.err := e3.out
        have g4 : (Cn.close ca).2 = (Cn.close cb).2 := e4.out
        have g5 : ca.err ≠ 0 → Cn.close ca = (ca, []) := e5.out
        have hFlt : ∀ k, Fb' k → k < wr.heap.size := fun k h => hAn.out.2.1 k h
        have hzr := hKn.out.size
        have hFbB : ∀ k, Fb' k → w.heap.size ≤ k := fun k h => (hFn.out k h).elim (fun h => Nat.le_trans (Nat.le_trans hz1.out hz12.out) (hFb.out k h)) (fun h => Nat.le_trans hB5.out.size h)
        have P5b : ∀ k, w4.heap.size ≤ k → ¬ Fb k := fun k h h2 => by
          have h3 := hFbLt.out k h2
          have h4 := hz34.out
          omega
        replace hClA := Lib.hid hClA
        replace P5b := Lib.hid P5b
        replace hFlt := Lib.hid hFlt
        replace hFbB := Lib.hid hFbB
        replace hzr := Lib.hid hzr
        replace g3 := Lib.hid g3
        replace g4 := Lib.hid g4
        replace g5 := Lib.hid g5
        replace f1 := Lib.hid f1
        replace f2 := Lib.hid f2
        replace kla := Lib.hid kla
        replace klb := Lib.hid klb
        replace sla := Lib.hid sla
        replace slb := Lib.hid slb
        replace blb := Lib.hid blb
        replace fla := Lib.hid fla
        replace flb := Lib.hid flb
        replace fcl := Lib.hid fcl
        replace ncl := Lib.hid ncl
        clear hAar hfb hcb hdb hbb hs2' bla
        go_wp2_with fail
        refine hClA.out.mono ?_
        rintro e w6 ⟨o1, F1, xs1, rfl, hE1, hR1, hO1, hFF1, hk6, hA6⟩
        have hB6 := Lib.hid (hBr.out.trans (hk6.toBelow hBr.out.size hFaB.out))
        have hFaFb : ∀ k, Fb' k → ¬ Fa' k := fun k h h2 => by
          rcases hFn.out k h with h3 | h3
          · exact hdis.out k h3 h2
          · have := hFa5.out k h2; omega
        have hAbr := hAn.out.kp hk6 hFaFb
        have hClB := close_any hAbr blb.out
        have hz6 := hk6.size
        have hEl6 := (hE5.out.kp hKn.out (fun k hp => P5b.out k hp.1)).kp hk6 (fun k hp => hp.2.2)
        have hRl6 := (hR5.out.kp (fun k e => P5b.out k (hO5.out k e).1) hKn.out).kp (fun k e => (hO5.out k e).2.2) hk6
        have hEm6 := hEn.out.kp hk6 (fun k hp h => by have := hFa5.out k h; have := hp.1; omega)
        have hOm6 := hOn.out.kp (fun k e h => by have := hFa5.out k h; have := (World.ownsRow.lt hOn.out k e).1; omega) hk6
        obtain ⟨A1, cap1, rfl, -, -, -⟩ := id hR1
        replace hClB := Lib.hid hClB
        replace hEl6 := Lib.hid hEl6
        replace hRl6 := Lib.hid hRl6
        replace hEm6 := Lib.hid hEm6
        replace hOm6 := Lib.hid hOm6
        replace hE1 := Lib.hid hE1
        replace hR1 := Lib.hid hR1
        replace hO1 := Lib.hid hO1
        replace hz6 := Lib.hid hz6
        clear hAbr hFaFb hA6 hFF1 hClA hk6
        go_wp2_with fail
        refine hClB.out.mono ?_
        rintro e w7 ⟨o2, F2, xs2, rfl, hE2, hR2, hO2, hFF2, hk7, hA7⟩
        have hB7 := Lib.hid (hB6.out.trans (hk7.toBelow hB6.out.size hFbB.out))
        have hEl7 := hEl6.out.kp hk7 (fun k hp h => by
          rcases hFn.out k h with h3 | h3
          · exact P5b.out k hp.1 h3
          · have := hp.2.1; omega)
        have hRl7 := hRl6.out.kp (fun k e h => by
          have hp := hO5.out k e
          rcases hFn.out k h with h3 | h3
          · exact P5b.out k hp.1 h3
          · have := hp.2.1; omega) hk7
        have hEm7 := hEm6.out.kp hk7 (fun k hp => hp.2.2.1)
        have hRm7 := Rd.own (hOm6.out.kp hOffn.out hk7)
        have hE17 := hE1.out.kp hk7 (fun k hp h => by have := hFlt.out k h; have := hp.1; omega)
        have hR17 := hR1.out.kp (fun k e h => by have := hFlt.out k h; have := (hO1.out k e).1; omega) hk7
        replace hE2 : Cn.EvsC w7 (fun k => w6.heap.size ≤ k ∧ k < w7.heap.size ∧ ¬ F2 k) (Cn.close ca).2 xs2 := by rw [g4.out]; exact hE2
        replace hR2 : Rd w7 8 o2 (Cn.close ca).2.length xs2 := by rw [g4.out]; exact hR2
        rw [← g3.out]
        obtain ⟨A2, cap2, rfl, -, -, -⟩ := id hR2
        obtain ⟨Am, capm, rfl, -, -, -⟩ := id hRm7
        have hno : ∀ w', Below w7.heap.size w7 w' → Kp (fun _ => False) w7 w' := fun w' hb => (Kp.refl _ w7).below hb
        have hRfL := Lib.hid (fun w' (hb : Below w7.heap.size w7 w') => ref_any (l := la) _ w' (hEl7.kp (hno w' hb) (fun _ _ h => h)) (hRl7.below hb) fla.out (by have := kla.out; omega))
        have hRfM := Lib.hid (fun w' (hb : Below w7.heap.size w7 w') => ref_any (l := lb) _ w' (hEm7.kp (hno w' hb) (fun _ _ h => h)) (hRm7.below hb) flb.out (by have := klb.out; omega))
        have hRf1 := Lib.hid (fun w' (hb : Below w7.heap.size w7 w') => ref_any (l := (Cn.close ca).2) _ w' (hE17.kp (hno w' hb) (fun _ _ h => h)) (hR17.below hb) fcl.out.2 (by have := ncl.out; omega))
        have hRf2 := Lib.hid (fun w' (hb : Below w7.heap.size w7 w') => ref_any (l := (Cn.close ca).2) _ w' (hE2.kp (hno w' hb) (fun _ _ h => h)) (hR2.below hb) fcl.out.2 (by have := ncl.out; omega))
        have hNm := Lib.hid (fun (z : Int) w => num_any z w)
        replace hno := Lib.hid hno
        clear hEl7 hRl7 hEm7 hRm7 hE17 hR17 hE2 hR2 hO2 hFF2 hk7 hA7 hClB
        rw [← f1.out]
        go_wp2_with fail
        refine (hNm.out _ _).mono ?_
        rintro e wn ⟨rfl, hwn⟩
        subst wn
        go_wp2_with fail
        refine (hRfL.out w7 (Below.refl _ _)).mono ?_
        rintro e w8 ⟨oA, yA, rfl, hoA, hDA, hb8⟩
        obtain ⟨AA, cA, rfl, -, -, -⟩ := Rd.own hoA
        have hJA := Lib.hid (joined_any (l := la) _ w8 hDA (Rd.own hoA) (by have := kla.out; omega) sla.out)
        replace hb8 := Lib.hid hb8
        clear hoA hDA
        go_wp2_with fail
        refine hJA.out.mono ?_
        rintro e w9 ⟨oJ, yJ, rfl, hoJ, hDJ, hb9⟩
        obtain ⟨AJ, cJ, rfl, -, -, -⟩ := Rd.own hoJ
        have hz8 := hb8.out.size
        have hb79 := Lib.hid (hb8.out.trans (hb9.mono hz8))
        have hDJ9 := Lib.hid (hDJ.kp ((Kp.refl (fun _ => False) w8).below hb9) (fun _ _ h => h))
        replace hoJ := Lib.hid hoJ
        clear hDJ hb9 hz8 hJA
        go_wp2_with fail
        refine (hRfM.out w9 hb79.out).mono ?_
        rintro e w10 ⟨oB, yB, rfl, hoB, hDB, hb10⟩
        obtain ⟨AB, cB, rfl, -, -, -⟩ := Rd.own hoB
        have hJB := Lib.hid (joined_any (l := lb) _ w10 hDB (Rd.own hoB) (by have := klb.out; omega) slb.out)
        have hz9 := hb79.out.size
        have hb7a := Lib.hid (hb79.out.trans (hb10.mono hz9))
        have hDJa := Lib.hid (hDJ9.out.kp ((Kp.refl (fun _ => False) w9).below hb10) (fun _ _ h => h))
        have hoJa := Lib.hid (own_below hoJ.out hb10)
        clear hoB hDB hb10 hz9
        go_wp2_with fail
        refine hJB.out.mono ?_
        rintro e w11 ⟨oK, yK, rfl, hoK, hDK, hb11⟩
        rw [← f2.out] at hoK hDK
        obtain ⟨AK, cK, rfl, -, -, -⟩ := Rd.own hoK
        have hz10 := hb7a.out.size
        have hb7b := Lib.hid (hb7a.out.trans (hb11.mono hz10))
        have hDKb := hDK.kp ((Kp.refl (fun _ => False) w10).below hb11) (fun _ _ h => h)
        have hDJb := hDJa.out.kp ((Kp.refl (fun _ => False) w10).below hb11) (fun _ _ h => h)
        have hSm := Lib.hid (same_yes8 (l := Cn.joined la) w11 hDJb (Rd.own (own_below hoJa.out hb11)) hDKb (Rd.own hoK) (Cn.joined_few fla.out) (by have h1 := Cn.joined_cnt la; have h2 := kla.out; omega))
        clear hoK hDK hb11 hz10 hDKb hDJb hJB
        go_wp2_with fail
        refine hSm.out.mono ?_
        rintro e w12 ⟨rfl, hb12'⟩
        have hz11 := hb7b.out.size
        have hb7c := Lib.hid (hb7b.out.trans (hb12'.mono hz11))
        clear hb12' hz11 hSm
        go_wp2_with fail
        refine (hNm.out _ _).mono ?_
        rintro e wn ⟨rfl, hwn⟩
        subst wn
        go_wp2_with fail
        refine (hNm.out _ _).mono ?_
        rintro e wn ⟨rfl, hwn⟩
        subst wn
        go_wp2_with fail
        refine (hRf1.out w12 hb7c.out).mono ?_
        rintro e w13 ⟨oC, yC, rfl, hoC, hDC, hb13'⟩
        obtain ⟨AC, cC, rfl, -, -, -⟩ := Rd.own hoC
        have hz12' := hb7c.out.size
        have hb7d := Lib.hid (hb7c.out.trans (hb13'.mono hz12'))
        replace hoC := Lib.hid hoC
        replace hDC := Lib.hid hDC
        clear hb13' hz12'
        go_wp2_with fail
        refine (hRf2.out w13 hb7d.out).mono ?_
        rintro e w14 ⟨oD, yD, rfl, hoD, hDD, hb14⟩
        obtain ⟨AD, cD, rfl, -, -, -⟩ := Rd.own hoD
        have hz13 := hb7d.out.size
        have hb7e := Lib.hid (hb7d.out.trans (hb14.mono hz13))
        have hSm2 := Lib.hid (same_yes8 (l := (Cn.close ca).2) w14 (hDC.out.kp ((Kp.refl (fun _ => False) w13).below hb14) (fun _ _ h => h)) (Rd.own (own_below hoC.out hb14)) hDD (Rd.own hoD) fcl.out.2 (by have := ncl.out; omega))
        clear hoD hDD hb14 hz13
        go_wp2_with fail
        refine hSm2.out.mono ?_
        rintro e w15 ⟨rfl, hb15⟩
        have hz14 := hb7e.out.size
        have hb7f := Lib.hid (hb7e.out.trans (hb15.mono hz14))
        have hB15 := Lib.hid (hB7.out.trans (hb7f.out.mono hB7.out.size))
        clear hb15 hz14 hSm2
        by_cases hce : ca.err = 0
        · rw [show errV ca.err = .nilIface by rw [hce]; rfl]
          go_wp2
          go_ret
          exact ⟨rfl, hB15.out⟩
        · obtain ⟨hd1, hd2⟩ : (Cn.close ca).1.err = ca.err ∧ (Cn.close ca).2.length = 0 := by rw [g5.out hce]; exact ⟨rfl, rfl⟩
          have hev : errV ca.err = .iface 76 (.int .i64 ca.err) := by unfold errV; rw [if_neg hce]
          have hN2 : ∀ w, Calls Tryz.prog 29 #[.iface 76 (.int .i64 ca.err)] w fun e w' => e = .returned (.int .i64 ca.err) ∧ w' = w := fun w => by
            have h := hNm.out ca.err w
            rw [hev] at h
            exact h
          replace hN2 := Lib.hid hN2
          go_wp2_with fail
          refine (hN2.out _).mono ?_
          rintro e wn ⟨rfl, hwn⟩
          subst wn
          go_wp2
          go_ret
          exact ⟨rfl, hB15.out⟩
  all_goals
    refine (hend.out w1 hB1.out hM1.out).mono ?_
    rintro e w2 ⟨rfl, hb2⟩
    replace hb2 := Lib.hid hb2
    go_wp2
    go_ret
    exact ⟨rfl, hb2.out⟩
end Go.Proofs.YtibcbaghgpemfaaGreatDoor
