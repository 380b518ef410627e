/-
  Layer 5: the document's WriteRequest.
-/
import Derived.Test.YtemlnmelicnneaaDoorHWq
import Derived.Test.YtemlnmelicnneaaDoorGWr
namespace Go.Proofs.YtemlnmelicnneaaDoor
open Go.RowKit Syn Fr Hd Ck

namespace Hd
theorem hsX_val {l : List (List UInt8 × List UInt8)} {h : List UInt8} (hx : hsX l = some h) : ∃ x, allV l hostN = [x] ∧ h = Syn.lower x := by
  unfold hsX at hx
  split at hx
  · next x he =>
    split at hx
    · exact ⟨x, he, (Option.some.inj hx).symm⟩
    · cases hx
  · cases hx
theorem lnsR_host {l : List (List UInt8 × List UInt8)} {h : List UInt8} (hok : okCs l = true) (hx : hsX l = some h) : lnsR (l.map repR) = lns ((can l).map (rep hostN h)) := by
  obtain ⟨x, hv, rfl⟩ := hsX_val hx
  unfold lnsR lns can
  rw [List.map_map, List.flatMap_def, List.flatMap_def, List.map_map, List.map_map]
  congr 1
  refine List.map_congr_left fun p hp => ?_
  have h1 := ((okC_iff p.1 p.2).1 (List.all_eq_true.1 hok p hp)).1
  have hn : nmV p.1 = Syn.lower p.1 := by unfold nmV; rw [if_pos h1]
  have hr : nmR p.1 = Syn.lower p.1 := by unfold nmR; rw [if_pos h1, hn]
  show lnR (repR p) = ln (rep hostN (Syn.lower x) (nmV p.1, p.2))
  unfold repR rep
  show _ = ln (if Syn.lower (nmV p.1) = hostN then _ else _)
  rw [hn, lower_lower]
  by_cases he : Syn.lower p.1 = hostN
  · rw [if_pos he, if_pos he]
    obtain ⟨k, hk, rfl⟩ := List.mem_iff_getElem.1 hp
    have := allV_at hk he
    rw [hv, List.mem_singleton] at this
    show ln (nmR l[k].1, Syn.lower l[k].2) = _
    rw [hr, he, this]
  · rw [if_neg he, if_neg he]
    show ln (nmR p.1, p.2) = _
    rw [hr]
theorem repR_size {l : List (List UInt8 × List UInt8)} {M : Nat} (hs : ∀ p ∈ l, p.1.length ≤ M ∧ p.2.length ≤ M) : ∀ p ∈ l.map repR, p.1.length ≤ M ∧ p.2.length ≤ M := by
  intro p hp
  obtain ⟨q, hq, rfl⟩ := List.mem_map.1 hp
  unfold repR
  split
  · exact ⟨(hs q hq).1, by rw [lower_length]; exact (hs q hq).2⟩
  · exact hs q hq
theorem lnsR_repR (l : List (List UInt8 × List UInt8)) : (lnsR (l.map repR)).length = (lns l).length := by
  rw [lnsR_len]
  unfold lns
  rw [List.length_flatMap, List.length_flatMap, List.map_map]
  congr 1
  refine List.map_congr_left fun p _ => ?_
  show (ln (repR p)).length = _
  rw [ln_len, ln_len]
  unfold repR
  split
  · rw [lower_length]
  · rfl
end Hd
set_option maxRecDepth 100000 in
set_option maxHeartbeats 16000000 in
theorem rwreq_any (m t : List UInt8) (l : List (List UInt8 × List UInt8)) (v : Value) (w : World) (hmt : m.length + t.length ≤ 50000) (hR : Rd w 2 v l.length (prs l)) (hs : ∀ p ∈ l, p.1.length ≤ 1000000 ∧ p.2.length ≤ 1000000) (hm : l.length ≤ 1000) :
    Calls Tryd.prog 19 #[.agg #[.string (str m), .string (str t), v]] w fun e w' => e = .returned (.tuple #[.string (str (wqB m t l)), .int .i64 (wqE m t l)]) ∧ Below w.heap.size w w' := by
  obtain ⟨A, cap, rfl, hcap, -, -⟩ := id hR
  have hK := Blk.new w 43 #[.string (str m), .string (str t), .slice A l.length cap]
  have hb0 := (Below.refl w.heap.size w).alloc (Nat.le_refl _) (.cells #[.string (str m), .string (str t), .slice A l.length cap] 43)
  have hRb := Lib.hid (fun w' (hb : Below w.heap.size w w') => rbody_any l (.slice A l.length cap) w' (hR.below hb) hs hm)
  have hHo := Lib.hid (fun w' (hb : Below w.heap.size w w') => rhosted_any l (.slice A l.length cap) w' hs hm (hR.below hb))
  have hRb2 := Lib.hid (fun v w' (h : Rd w' 2 v (l.map repR).length (prs (l.map repR))) => rbody_any (l.map repR) v w' h (repR_size hs) (by rw [List.length_map]; exact hm))
  have hMe := fun w' => rmethod_any (str m) w' (by rw [str_size]; omega)
  have hTa := fun w' => rtarget_any (str m) (str t) w' (by rw [str_size]; omega)
  rw [bs_str] at hMe
  rw [bs_str, bs_str] at hTa
  have z1 : (str m).size = m.length := str_size _
  have z2 : (str t).size = t.length := str_size _
  have q1 : (str m ++ (⟨#[32]⟩ : ByteArray)).size = m.length + 1 := by rw [ByteArray.size_append, z1]; rfl
  have q2 : (str m ++ (⟨#[32]⟩ : ByteArray) ++ str t).size = m.length + 1 + t.length := by rw [ByteArray.size_append, q1, z2]
  have q3 : (str m ++ (⟨#[32]⟩ : ByteArray) ++ str t ++ ⟨#[32, 72, 84, 84, 80, 47, 49, 46, 49, 13, 10]⟩).size = m.length + t.length + 12 := by rw [ByteArray.size_append, q2]; show _ + 11 = _; omega
  have zb : (str (lnsR l ++ [13, 10])).size = (lns l).length + 2 := by rw [str_size, List.length_append, lnsR_len]; rfl
  have zb2 : (str (lnsR (l.map repR) ++ [13, 10])).size = (lns l).length + 2 := by rw [str_size, List.length_append, lnsR_repR]; rfl
  have hlen := lns_len l 1000000 hs
  have hE : wqE m t l = if 64 < l.length ∨ 8192 < m.length + t.length + 12 + ((lns l).length + 2) then 5 else if mthB m = false then 26 else if tgtB m t = false then 27 else if okCs l = false then 25 else if hsX l = none then 29 else 0 := by
    unfold wqE largeB
    by_cases h : 64 < l.length ∨ 8192 < m.length + t.length + 12 + ((lns l).length + 2)
    · rw [if_pos h, if_pos (by simp; omega)]
    · rw [if_neg h, if_neg (by simp; omega)]
  have hW := Lib.hid (show wqE m t l ≠ 0 → wqB m t l = [] from fun h => by unfold wqB; rw [if_neg h])
  have hT := Lib.hid (show okCs l = true → ∀ h, hsX l = some h → wqE m t l = 0 → str (wqB m t l) = (str m ++ (⟨#[32]⟩ : ByteArray) ++ str t ++ ⟨#[32, 72, 84, 84, 80, 47, 49, 46, 49, 13, 10]⟩) ++ str (lnsR (l.map repR) ++ [13, 10]) from fun h1 h hx h2 => by
    unfold wqB headB wqS wqL
    rw [if_pos h2, lnsR_host h1 hx, hx]
    show str _ = str m ++ str [32] ++ str t ++ str [32, 72, 84, 84, 80, 47, 49, 46, 49, 13, 10] ++ _
    rw [str_append, str_append, str_append, str_append]
    simp)
  generalize hlr : l.map repR = lr at *
  replace hlr := Lib.hid hlr
  generalize str (lnsR l ++ [13, 10]) = sb at *
  generalize str (lnsR lr ++ [13, 10]) = sb2 at *
  generalize str m = sm at *
  generalize str t = sd at *
  replace hR := Lib.hid hR
  replace hs := Lib.hid hs
  replace hMe := Lib.hid hMe
  replace hTa := Lib.hid hTa
  replace hK := Lib.hid hK
  have hc0 := hK.out.cell 0
  have hc1 := hK.out.cell 1
  have hc2 := hK.out.cell 2
  replace hb0 := Lib.hid hb0
  by_cases k1 : 64 < l.length
  · rw [if_pos (.inl k1)] at hE
    have hF := hW.out (by rw [hE]; decide)
    replace hE := Lib.hid hE
    replace hF := Lib.hid hF
    go_enter Tryd.func19, Tryd.ntmps19
    go_wp2_with fail
    refine (hRb.out _ hb0.out).mono ?_
    rintro e w2 ⟨rfl, hb2⟩
    have hB2 := Lib.hid (Below.next hb0.out hb0.out.size hb2)
    have hK2 := hK.out.below hb2
    have c20 := hK2.cell 0
    have c21 := hK2.cell 1
    have c22 := hK2.cell 2
    replace hK2 := Lib.hid hK2
    clear hb2
    go_wp2
    go_ret2
    exact ⟨by rw [hE.out, hF.out]; rfl, hB2.out⟩

  · by_cases k2 : 8192 < m.length + t.length + 12 + ((lns l).length + 2)
    · rw [if_pos (.inr k2)] at hE
      have hF := hW.out (by rw [hE]; decide)
      replace hE := Lib.hid hE
      replace hF := Lib.hid hF
      go_enter Tryd.func19, Tryd.ntmps19
      go_wp2_with fail
      refine (hRb.out _ hb0.out).mono ?_
      rintro e w2 ⟨rfl, hb2⟩
      have hB2 := Lib.hid (Below.next hb0.out hb0.out.size hb2)
      have hK2 := hK.out.below hb2
      have c20 := hK2.cell 0
      have c21 := hK2.cell 1
      have c22 := hK2.cell 2
      replace hK2 := Lib.hid hK2
      clear hb2
      go_wp2
      go_ret2
      exact ⟨by rw [hE.out, hF.out]; rfl, hB2.out⟩

    · rw [if_neg (by omega)] at hE
      cases k3 : mthB m with
      | false =>
        rw [if_pos k3] at hE
        rw [k3] at hMe
        replace k3 := Lib.hid k3
        have hF := hW.out (by rw [hE]; decide)
        replace hE := Lib.hid hE
        replace hF := Lib.hid hF
        go_enter Tryd.func19, Tryd.ntmps19
        go_wp2_with fail
        refine (hRb.out _ hb0.out).mono ?_
        rintro e w2 ⟨rfl, hb2⟩
        have hB2 := Lib.hid (Below.next hb0.out hb0.out.size hb2)
        have hK2 := hK.out.below hb2
        have c20 := hK2.cell 0
        have c21 := hK2.cell 1
        have c22 := hK2.cell 2
        replace hK2 := Lib.hid hK2
        clear hb2
        go_wp2_with fail
        refine (hHo.out _ hB2.out).mono ?_
        rintro e w3 ⟨o3, rfl, ho3, hb3⟩
        have hB3 := Lib.hid (Below.next hB2.out hB2.out.size hb3)
        have hK3 := hK2.out.below hb3
        have c30 := hK3.cell 0
        have c31 := hK3.cell 1
        clear hb3 hK3 c20 c21 c22
        go_wp2_with fail
        refine (hMe.out _).mono ?_
        rintro e w4 ⟨rfl, rfl⟩
        go_wp2
        go_ret2
        exact ⟨by rw [hE.out, hF.out]; rfl, hB3.out⟩

      | true =>
        rw [if_neg (by rw [k3]; decide)] at hE
        rw [k3] at hMe
        replace k3 := Lib.hid k3
        cases k4 : tgtB m t with
        | false =>
          rw [if_pos k4] at hE
          rw [k4] at hTa
          replace k4 := Lib.hid k4
          have hF := hW.out (by rw [hE]; decide)
          replace hE := Lib.hid hE
          replace hF := Lib.hid hF
          go_enter Tryd.func19, Tryd.ntmps19
          go_wp2_with fail
          refine (hRb.out _ hb0.out).mono ?_
          rintro e w2 ⟨rfl, hb2⟩
          have hB2 := Lib.hid (Below.next hb0.out hb0.out.size hb2)
          have hK2 := hK.out.below hb2
          have c20 := hK2.cell 0
          have c21 := hK2.cell 1
          have c22 := hK2.cell 2
          replace hK2 := Lib.hid hK2
          clear hb2
          go_wp2_with fail
          refine (hHo.out _ hB2.out).mono ?_
          rintro e w3 ⟨o3, rfl, ho3, hb3⟩
          have hB3 := Lib.hid (Below.next hB2.out hB2.out.size hb3)
          have hK3 := hK2.out.below hb3
          have c30 := hK3.cell 0
          have c31 := hK3.cell 1
          clear hb3 hK3 c20 c21 c22
          go_wp2_with fail
          refine (hMe.out _).mono ?_
          rintro e w4 ⟨rfl, rfl⟩
          go_wp2_with fail
          refine (hTa.out _).mono ?_
          rintro e w4 ⟨rfl, rfl⟩
          go_wp2
          go_ret2
          exact ⟨by rw [hE.out, hF.out]; rfl, hB3.out⟩

        | true =>
          rw [if_neg (by rw [k4]; decide)] at hE
          rw [k4] at hTa
          replace k4 := Lib.hid k4
          cases k5 : okCs l with
          | false =>
            rw [if_pos k5] at hE
            rw [k5] at hRb
            replace k5 := Lib.hid k5
            have hF := hW.out (by rw [hE]; decide)
            replace hE := Lib.hid hE
            replace hF := Lib.hid hF
            go_enter Tryd.func19, Tryd.ntmps19
            go_wp2_with fail
            refine (hRb.out _ hb0.out).mono ?_
            rintro e w2 ⟨rfl, hb2⟩
            have hB2 := Lib.hid (Below.next hb0.out hb0.out.size hb2)
            have hK2 := hK.out.below hb2
            have c20 := hK2.cell 0
            have c21 := hK2.cell 1
            have c22 := hK2.cell 2
            replace hK2 := Lib.hid hK2
            clear hb2
            go_wp2_with fail
            refine (hHo.out _ hB2.out).mono ?_
            rintro e w3 ⟨o3, rfl, ho3, hb3⟩
            have hB3 := Lib.hid (Below.next hB2.out hB2.out.size hb3)
            have hK3 := hK2.out.below hb3
            have c30 := hK3.cell 0
            have c31 := hK3.cell 1
            clear hb3 hK3 c20 c21 c22
            go_wp2_with fail
            refine (hMe.out _).mono ?_
            rintro e w4 ⟨rfl, rfl⟩
            go_wp2_with fail
            refine (hTa.out _).mono ?_
            rintro e w4 ⟨rfl, rfl⟩
            go_wp2
            go_ret2
            exact ⟨by rw [hE.out, hF.out]; rfl, hB3.out⟩

          | true =>
            rw [if_neg (by rw [k5]; decide)] at hE
            rw [k5] at hRb
            cases k6 : hsX l with
            | none =>
              rw [if_pos k6] at hE
              rw [k6] at hHo
              replace k5 := Lib.hid k5
              replace k6 := Lib.hid k6
              have hF := hW.out (by rw [hE]; decide)
              replace hE := Lib.hid hE
              replace hF := Lib.hid hF
              go_enter Tryd.func19, Tryd.ntmps19
              go_wp2_with fail
              refine (hRb.out _ hb0.out).mono ?_
              rintro e w2 ⟨rfl, hb2⟩
              have hB2 := Lib.hid (Below.next hb0.out hb0.out.size hb2)
              have hK2 := hK.out.below hb2
              have c20 := hK2.cell 0
              have c21 := hK2.cell 1
              have c22 := hK2.cell 2
              replace hK2 := Lib.hid hK2
              clear hb2
              go_wp2_with fail
              refine (hHo.out _ hB2.out).mono ?_
              rintro e w3 ⟨o3, rfl, ho3, hb3⟩
              have hB3 := Lib.hid (Below.next hB2.out hB2.out.size hb3)
              have hK3 := hK2.out.below hb3
              have c30 := hK3.cell 0
              have c31 := hK3.cell 1
              clear hb3 hK3 c20 c21 c22
              go_wp2_with fail
              refine (hMe.out _).mono ?_
              rintro e w4 ⟨rfl, rfl⟩
              go_wp2_with fail
              refine (hTa.out _).mono ?_
              rintro e w4 ⟨rfl, rfl⟩
              go_wp2
              go_ret2
              exact ⟨by rw [hE.out, hF.out]; rfl, hB3.out⟩

            | some h =>
              rw [if_neg (by rw [k6]; exact fun h => by cases h)] at hE
              have hF := hT.out k5 h k6 hE
              rw [k6] at hHo
              replace k5 := Lib.hid k5
              replace k6 := Lib.hid k6
              replace hE := Lib.hid hE
              replace hF := Lib.hid hF
              go_enter Tryd.func19, Tryd.ntmps19
              go_wp2_with fail
              refine (hRb.out _ hb0.out).mono ?_
              rintro e w2 ⟨rfl, hb2⟩
              have hB2 := Lib.hid (Below.next hb0.out hb0.out.size hb2)
              have hK2 := hK.out.below hb2
              have c20 := hK2.cell 0
              have c21 := hK2.cell 1
              have c22 := hK2.cell 2
              replace hK2 := Lib.hid hK2
              clear hb2
              go_wp2_with fail
              refine (hHo.out _ hB2.out).mono ?_
              rintro e w3 ⟨o3, rfl, ho3, hb3⟩
              have hB3 := Lib.hid (Below.next hB2.out hB2.out.size hb3)
              have hK3 := hK2.out.below hb3
              have c30 := hK3.cell 0
              have c31 := hK3.cell 1
              clear hb3 hK3 c20 c21 c22
              go_wp2_with fail
              refine (hMe.out _).mono ?_
              rintro e w4 ⟨rfl, rfl⟩
              go_wp2_with fail
              refine (hTa.out _).mono ?_
              rintro e w4 ⟨rfl, rfl⟩

              have hr3 := Lib.hid (Rd.own (ho3 rfl))
              obtain ⟨A3, c3, rfl, -, -, -⟩ := id hr3.out
              clear ho3
              go_wp2_with fail
              refine (hRb2.out _ _ hr3.out).mono ?_
              rintro e w5 ⟨rfl, hb5⟩
              have hB5 := Lib.hid (Below.next hB3.out hB3.out.size hb5)
              clear hb5
              go_wp2
              go_ret2
              exact ⟨by rw [hE.out, hF.out]; rfl, hB5.out⟩
end Go.Proofs.YtemlnmelicnneaaDoor
