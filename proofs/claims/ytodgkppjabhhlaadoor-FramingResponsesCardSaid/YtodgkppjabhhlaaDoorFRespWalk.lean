/-
  The walk of FramingResponses.
-/
import Derived.Test.YtodgkppjabhhlaaDoorFReqWalk
import Derived.Test.YtodgkppjabhhlaaDoorFResp
import Derived.Test.YtodgkppjabhhlaaDoorFResp3
namespace Go.Proofs.YtodgkppjabhhlaaDoor
open Go.RowKit Syn Fr

set_option maxRecDepth 100000 in
set_option maxHeartbeats 8000000 in
theorem responses_walk (L : List (Bytes × Bytes)) (mt : Bytes) (a : ByteArray) (z : Int) (v : Value) (w : World) (ha : str mt = a) (hR : Rd w 2 v L.length (prs L)) (hbig : ∀ p ∈ L, p.1.length ≤ 140737488355328 ∧ p.2.length ≤ 140737488355328) (hlm : L.length ≤ 140737488355328) :
    Calls Tryd.prog 5 #[.string a, .agg #[.int .i64 z, v]] w fun e w' => e = .returned (.bool true) ∧ Below w.heap.size w w' := by
  subst ha
  obtain ⟨A, cap, rfl, hcap, -, -⟩ := id hR
  obtain ⟨G, hG⟩ : ∃ G, w.heap.size = G := ⟨_, rfl⟩
  have hFt := Lib.hid (fun w (h : Rd w 2 (.slice A L.length cap) L.length (prs L)) => fits_any L _ w h hbig hlm)
  replace hR := Lib.hid hR
  replace hbig := Lib.hid hbig
  go_enter Tryd.func5, Tryd.ntmps5
  go_wp2_with fail
  have hA := Blk.new w 53 #[.int .i64 z, .slice A L.length cap]
  have hB0 := (Below.refl w.heap.size w).alloc (Nat.le_refl _) (.cells #[.int .i64 z, .slice A L.length cap] 53)
  rw [hG] at hA
  generalize w.alloc (.cells #[.int .i64 z, .slice A L.length cap] 53) = w0 at *
  refine (fawake_any _).mono ?_
  rintro e w1 ⟨rfl, hb1⟩
  have hA1 := hA.below hb1
  have hR1 := Lib.hid (hR.out.below (hB0.trans (hb1.mono hB0.size)))
  have hB1 := Lib.hid (Below.next hB0 hB0.size hb1)
  have c0 : w1.cell? ⟨G, 0, none⟩ = some (.int .i64 z) := hA1.cell 0
  have c1 : w1.cell? ⟨G, 1, none⟩ = some (.slice A L.length cap) := hA1.cell 1
  replace hA1 := Lib.hid hA1
  clear hb1 hA hB0
  go_wp2_with fail
  refine (hFt.out _ hR1.out).mono ?_
  rintro e w2 ⟨b, rfl, hfew, nd, rfl⟩
  cases b
  · clear hfew
    go_wp2_with fail
    refine (fawake_any _).mono ?_
    rintro e w3 ⟨rfl, hb3⟩
    have hB3 := Lib.hid (Below.next (below_drewN hB1.out nd) hB1.out.size hb3)
    clear hb3
    go_wp2
    go_ret
    exact ⟨rfl, hB3.out⟩
  · have hF := Lib.hid (hfew rfl)
    have hl : L.length ≤ 100 := hF.out.len
    have hRq := Lib.hid (fun w h => response_any L z (.slice A L.length cap) w hl h)
    have hOf := Lib.hid (fun w B cap' h => of_response L mt z B cap' w hF.out h)
    have hRf := Lib.hid (fun w h => ref_response L mt z A cap w hF.out h)
    have hNm := Lib.hid (fun w => num_any (respF mt z (frame 4 L)).2 w)
    have hIs := Lib.hid (fun w => is_same (respF mt z (frame 4 L)) w)
    have hnn := beq_self_eq_true (respF mt z (frame 4 L)).2
    clear hfew
    generalize respF mt z (frame 4 L) = fr at *
    go_wp2_with fail
    refine (hRq.out _ (hR1.out.drewN nd)).mono ?_
    rintro e w3 ⟨o, rfl, hR3, hb3⟩
    obtain ⟨B, cap', rfl, -, -, -⟩ := id hR3
    have hb3' : Below w1.heap.size w1 w3 := ⟨hb3.os, hb3.tape, hb3.output, hb3.size, hb3.block⟩
    have hA3 := hA1.out.below hb3'
    have hR13 := Lib.hid (hR1.out.below hb3')
    have hB3 := Below.next hB1.out hB1.out.size hb3'
    clear hb3 hb3'
    go_wp2_with fail
    refine (hOf.out _ _ _ hR3).mono ?_
    rintro e w4 ⟨rfl, hb4⟩
    have hA4 := hA3.below hb4
    have hR4 := Lib.hid ((hR13.out.below hb4).below ((Below.refl w4.heap.size w4).alloc (Nat.le_refl _) (.cells #[.int .i64 (fr.1.1 : Int), .int .i64 (fr.1.2 : Int)] 28)))
    have hB4 := Lib.hid (Below.next hB3 hB3.size hb4)
    have hB4s := hB4.out.size
    have hA5 := hA4.alloc (.cells #[.int .i64 (fr.1.1 : Int), .int .i64 (fr.1.2 : Int)] 28)
    have d0 : (w4.alloc (.cells #[.int .i64 (fr.1.1 : Int), .int .i64 (fr.1.2 : Int)] 28)).cell? ⟨G, 0, none⟩ = some (.int .i64 z) := hA5.cell 0
    have d1 : (w4.alloc (.cells #[.int .i64 (fr.1.1 : Int), .int .i64 (fr.1.2 : Int)] 28)).cell? ⟨G, 1, none⟩ = some (.slice A L.length cap) := hA5.cell 1
    clear hb4 hA3 hA4 hA5 hB3 c0 c1 hR3 hA1
    have hFV : frameV fr = .agg #[.int .i64 (fr.1.1 : Int), .int .i64 (fr.1.2 : Int)] := rfl
    generalize hev : errV fr.2 = ev at *
    replace hev := Lib.hid hev
    rw [hFV]
    go_wp2_with fail
    have hN1 := Lib.hid (Blk.new w4 28 #[.int .i64 (fr.1.1 : Int), .int .i64 (fr.1.2 : Int)])
    have hB5 := hB4.out.alloc hB4s (.cells #[.int .i64 (fr.1.1 : Int), .int .i64 (fr.1.2 : Int)] 28)
    refine (hRf.out _ hR4.out).mono ?_
    rintro e w6 ⟨rfl, hb6⟩
    have hN6 := hN1.out.below hb6
    have hB6 := Lib.hid (Below.next hB5 hB5.size hb6)
    have hB6s := hB6.out.size
    have hN7 := hN6.alloc (.cells #[.int .i64 (fr.1.1 : Int), .int .i64 (fr.1.2 : Int)] 38)
    have hB7 := Lib.hid (hB6.out.alloc hB6s (.cells #[.int .i64 (fr.1.1 : Int), .int .i64 (fr.1.2 : Int)] 38))
    have k0 : (w6.alloc (.cells #[.int .i64 (fr.1.1 : Int), .int .i64 (fr.1.2 : Int)] 38)).cell? ⟨w4.heap.size, 0, none⟩ = some (.int .i64 (fr.1.1 : Int)) := hN7.cell 0
    have k1 : (w6.alloc (.cells #[.int .i64 (fr.1.1 : Int), .int .i64 (fr.1.2 : Int)] 38)).cell? ⟨w4.heap.size, 1, none⟩ = some (.int .i64 (fr.1.2 : Int)) := hN7.cell 1
    clear hb6 hB5 hN6 hN7 d0 d1
    rw [hFV]
    go_wp2_with fail
    refine (hNm.out _).mono ?_
    rintro e w7 ⟨rfl, hw7⟩
    subst hw7
    go_wp2_with fail
    refine (hIs.out _).mono ?_
    rintro e w8 ⟨rfl, hb8⟩
    have hB8 := Lib.hid (Below.next hB7.out hB7.out.size hb8)
    clear hb8
    go_wp2
    go_ret
    exact ⟨rfl, hB8.out⟩
end Go.Proofs.YtodgkppjabhhlaaDoor
