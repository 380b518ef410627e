/-
  Layer 5: the walk of HeadWrites.
-/
import Derived.Test.YtemlnmelicnneaaDoorHRq
import Derived.Test.YtemlnmelicnneaaDoorHAns
namespace Go.Proofs.YtemlnmelicnneaaDoor
open Go.RowKit Syn Hd Ck

set_option maxRecDepth 100000 in
set_option maxHeartbeats 16000000 in
theorem writes_walk (m t : List UInt8) (l : List (List UInt8 × List UInt8)) (v : Value) (w : World) (hR : Rd w 2 v l.length (prs l)) (hbig : ∀ p ∈ l, p.1.length ≤ 140737488355328 ∧ p.2.length ≤ 140737488355328) (hlm : l.length ≤ 140737488355328) (hml : m.length ≤ 140737488355328) (htl : t.length ≤ 140737488355328) (hT : Tab10 w) :
    Calls Tryd.prog 4 #[.agg #[.string (str m), .string (str t), v]] w fun e w' => e = .returned (.bool true) ∧ Below w.heap.size w w' := by
  obtain ⟨A, cap, rfl, hcap, -, -⟩ := id hR
  obtain ⟨G, hG⟩ : ∃ G, w.heap.size = G := ⟨_, rfl⟩
  have hFt := Lib.hid (fun w (h : Rd w 2 (.slice A l.length cap) l.length (prs l)) => hfits_any l _ w h hbig hlm)
  replace hR := Lib.hid hR
  replace hbig := Lib.hid hbig
  have hAw := Lib.hid (fun w' (hb : Below w.heap.size w w') => hawake_any w' (hT.below hb))
  clear hT
  have z1 : (str m).size = m.length := str_size _
  have z2 : (str t).size = t.length := str_size _
  have hRsx := Lib.hid (fun w (hl : l.length ≤ 100) h => request_any l (.string (str m)) (.string (str t)) (.slice A l.length cap) w ⟨_, rfl⟩ ⟨_, rfl⟩ hl h)
  have hWrx := Lib.hid (fun v w hmt hs hm h => wreq_any m t l v w hmt h hs hm)
  have hRwx := Lib.hid (fun w hmt hs hm h => rwreq_any m t l (.slice A l.length cap) w hmt h hs hm)
  generalize str m = sm at *
  generalize str t = sd at *
  go_enter Tryd.func4, Tryd.ntmps4
  go_wp2_with fail
  have hA := Blk.new w 43 #[.string sm, .string sd, .slice A l.length cap]
  have hB0 := (Below.refl w.heap.size w).alloc (Nat.le_refl _) (.cells #[.string sm, .string sd, .slice A l.length cap] 43)
  rw [hG] at hA
  generalize w.alloc (.cells #[.string sm, .string sd, .slice A l.length cap] 43) = w0 at *
  refine (hAw.out _ hB0).mono ?_
  rintro e w1 ⟨rfl, hb1⟩
  have hA1 := hA.below hb1
  have hB1 := Lib.hid (Below.next hB0 hB0.size hb1)
  have hR1 := Lib.hid (hR.out.below hB1.out)
  have c0 : w1.cell? ⟨G, 0, none⟩ = some (.string sm) := hA1.cell 0
  have c1 : w1.cell? ⟨G, 1, none⟩ = some (.string sd) := hA1.cell 1
  have c2 : w1.cell? ⟨G, 2, none⟩ = some (.slice A l.length cap) := hA1.cell 2
  replace hA1 := Lib.hid hA1
  clear hb1 hA hB0
  go_wp2_with fail
  refine (hFt.out _ hR1.out).mono ?_
  rintro e w2 ⟨b, rfl, hfew, nd, rfl⟩
  have hB1n := Lib.hid (below_drewN hB1.out nd)
  cases b
  · clear hfew
    go_wp2_with fail
    refine (hAw.out _ hB1n.out).mono ?_
    rintro e w3 ⟨rfl, hb3⟩
    have hB3 := Lib.hid (Below.next hB1n.out hB1n.out.size hb3)
    clear hb3
    go_wp2
    go_ret
    exact ⟨rfl, hB3.out⟩
  · obtain ⟨h80, hbk⟩ := hfew rfl
    clear hfew
    by_cases hmt : 20000 < m.length + t.length
    · go_wp2_with fail
      refine (hAw.out _ hB1n.out).mono ?_
      rintro e w3 ⟨rfl, hb3⟩
      have hB3 := Lib.hid (Below.next hB1n.out hB1n.out.size hb3)
      clear hb3
      go_wp2
      go_ret
      exact ⟨rfl, hB3.out⟩
    · have hs : ∀ p ∈ l, p.1.length ≤ 1000000 ∧ p.2.length ≤ 1000000 := fun p hp => by have := bulk_mem hp; omega
      have hRs := Lib.hid (fun w h => hRsx.out w (by omega) h)
      have hWr := Lib.hid (fun v w h => hWrx.out v w (by omega) hs (by omega) h)
      have hRw := Lib.hid (fun w h => hRwx.out w (by omega) hs (by omega) h)
      have hNm := Lib.hid (fun w => num_any (wqE m t l) w)
      have hnn := beq_self_eq_true (wqE m t l)
      clear hRsx hWrx hRwx
      replace hs := Lib.hid hs
      generalize hen : wqE m t l = en at *
      generalize hwb : wqB m t l = wb at *
      replace hen := Lib.hid hen
      replace hwb := Lib.hid hwb
      go_wp2_with fail
      refine (hRs.out _ (hR1.out.drewN nd)).mono ?_
      rintro e w3 ⟨o, rfl, hR3, hb3⟩
      obtain ⟨B, cap', rfl, -, -, -⟩ := id hR3
      have hb3' : Below w1.heap.size w1 w3 := ⟨hb3.os, hb3.tape, hb3.output, hb3.size, hb3.block⟩
      have hA3 := hA1.out.below hb3'
      have hB3 := Below.next hB1.out hB1.out.size hb3'
      have c3 : w3.cell? ⟨G, 0, none⟩ = some (.string sm) := hA3.cell 0
      have c4 : w3.cell? ⟨G, 1, none⟩ = some (.string sd) := hA3.cell 1
      have c5 : w3.cell? ⟨G, 2, none⟩ = some (.slice A l.length cap) := hA3.cell 2
      replace hA3 := Lib.hid hA3
      replace hB3 := Lib.hid hB3
      clear hb3 hb3' c0 c1 c2
      go_wp2_with fail
      have hx := hWr.out _ _ hR3
      unfold WqR at hx
      rw [hen.out, hwb.out] at hx
      refine hx.mono ?_
      clear hx
      rintro e w4 ⟨o4, rfl, ho4, hb4⟩
      obtain ⟨A4, c4', rfl, -⟩ := id ho4.rd
      have hA4 := hA3.out.below hb4
      have hB4 := Lib.hid (Below.next hB3.out hB3.out.size hb4)
      have d3 : w4.cell? ⟨G, 0, none⟩ = some (.string sm) := hA4.cell 0
      have d4 : w4.cell? ⟨G, 1, none⟩ = some (.string sd) := hA4.cell 1
      have d5 : w4.cell? ⟨G, 2, none⟩ = some (.slice A l.length cap) := hA4.cell 2
      have hR4 := Lib.hid (hR.out.below hB4.out)
      replace ho4 := Lib.hid ho4
      clear hb4 hR3 c3 c4 c5 hA4
      generalize hev : errV en = ev at *
      replace hev := Lib.hid hev
      go_wp2_with fail
      refine (hRw.out _ hR4.out).mono ?_
      rintro e w5 ⟨rfl, hb5⟩
      have ho5 := ho4.out.below hb5
      have hcv := run_rd_str ho5.rd
      have hB5 := Lib.hid (Below.next hB4.out hB4.out.size hb5)
      clear hb5 d3 d4 d5 ho5
      go_wp2_with fail
      refine (hNm.out _).mono ?_
      rintro e w6 ⟨rfl, rfl⟩
      go_wp2
      go_ret
      exact ⟨rfl, hB5.out⟩
end Go.Proofs.YtemlnmelicnneaaDoor
