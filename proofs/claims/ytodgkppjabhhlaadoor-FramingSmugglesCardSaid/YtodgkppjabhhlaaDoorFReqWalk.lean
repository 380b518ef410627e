/-
  The walk of FramingRequests.
-/
import Derived.Test.YtodgkppjabhhlaaDoorFReq
import Derived.Test.YtodgkppjabhhlaaDoorFReq2
import Derived.Test.YtodgkppjabhhlaaDoorFFits
namespace Go.Proofs.YtodgkppjabhhlaaDoor
open Go.RowKit Syn Fr

theorem frame_five : frame 1 [(cl, [53])] = ((2, 5), 0) := by decide +kernel
theorem few_five : Few [(cl, [53])] := ⟨by decide, by decide⟩
set_option maxRecDepth 100000 in
set_option maxHeartbeats 4000000 in
theorem fawake_any (w : World) : Calls Tryd.prog 11 #[] w fun e w' => e = .returned (.bool true) ∧ Below w.heap.size w w' := by
  have hO : ∀ w A cap, Rd w 2 (.slice A 1 cap) 1 (prs [(cl, [53])]) → Calls Tryd.prog 13 #[.agg #[.string ⟨#[]⟩, .string ⟨#[]⟩, .slice A 1 cap]] w fun e w' => e = .returned (.tuple #[.agg #[.int .i64 2, .int .i64 5], .nilIface]) ∧ Below w.heap.size w w' := fun w A cap h => by
    have := of_request [(cl, [53])] ⟨#[]⟩ ⟨#[]⟩ A cap w few_five h
    rw [frame_five] at this
    exact this
  have hR : Rd (w.alloc (.cells #[.string ⟨#[99, 111, 110, 116, 101, 110, 116, 45, 108, 101, 110, 103, 116, 104]⟩, .string ⟨#[53]⟩] 48)) 2 (.slice (some ⟨w.heap.size, 0, none⟩) 1 1) 1 (prs [(cl, [53])]) := by
    refine ⟨_, _, rfl, Nat.le_refl _, rfl, fun _ => ⟨_, _, rfl, by rw [alloc_size']; omega, fun j u hu => ?_⟩⟩
    rw [Nat.zero_add, (Blk.new w 48 _).cell j]
    simpa [prs, str, cl] using hu
  replace hO := Lib.hid hO
  replace hR := Lib.hid hR
  go_enter Tryd.func11, Tryd.ntmps11
  go_wp2_with fail
  refine (hO.out _ _ _ hR.out).mono ?_
  rintro e w1 ⟨rfl, hb1⟩
  have hB := Lib.hid (Below.next ((Below.refl w.heap.size w).alloc (Nat.le_refl _) _) (by rw [alloc_size']; omega) hb1)
  clear hb1
  go_wp2
  go_ret
  exact ⟨rfl, hB.out.alloc hB.out.size _⟩
set_option maxRecDepth 100000 in
set_option maxHeartbeats 8000000 in
theorem requests_walk (L : List (Bytes × Bytes)) (m t : ByteArray) (v : Value) (w : World) (hR : Rd w 2 v L.length (prs L)) (hbig : ∀ p ∈ L, p.1.length ≤ 140737488355328 ∧ p.2.length ≤ 140737488355328) (hlm : L.length ≤ 140737488355328) :
    Calls Tryd.prog 3 #[.agg #[.string m, .string t, v]] w fun e w' => e = .returned (.bool true) ∧ Below w.heap.size w w' := by
  obtain ⟨A, cap, rfl, hcap, -, -⟩ := id hR
  obtain ⟨G, hG⟩ : ∃ G, w.heap.size = G := ⟨_, rfl⟩
  have hFt := Lib.hid (fun w (h : Rd w 2 (.slice A L.length cap) L.length (prs L)) => fits_any L _ w h hbig hlm)
  replace hR := Lib.hid hR
  replace hbig := Lib.hid hbig
  go_enter Tryd.func3, Tryd.ntmps3
  go_wp2_with fail
  have hA := Blk.new w 24 #[.string m, .string t, .slice A L.length cap]
  have hB0 := (Below.refl w.heap.size w).alloc (Nat.le_refl _) (.cells #[.string m, .string t, .slice A L.length cap] 24)
  rw [hG] at hA
  generalize w.alloc (.cells #[.string m, .string t, .slice A L.length cap] 24) = w0 at *
  refine (fawake_any _).mono ?_
  rintro e w1 ⟨rfl, hb1⟩
  have hA1 := hA.below hb1
  have hR1 := Lib.hid (hR.out.below (hB0.trans (hb1.mono hB0.size)))
  have hB1 := Lib.hid (Below.next hB0 hB0.size hb1)
  have c0 : w1.cell? ⟨G, 0, none⟩ = some (.string m) := hA1.cell 0
  have c1 : w1.cell? ⟨G, 1, none⟩ = some (.string t) := hA1.cell 1
  have c2 : w1.cell? ⟨G, 2, none⟩ = some (.slice A L.length cap) := hA1.cell 2
  replace hA1 := Lib.hid hA1
  clear hb1 hA hB0
  go_wp2_with fail
  refine (hFt.out _ hR1.out).mono ?_
  rintro e w2 ⟨b, rfl, hfew, nd, rfl⟩
  cases b
  · clear hfew
    go_wp2_with fail
    refine (fawake_any _).mono ?_
    rintro e w3 ⟨rfl, hb3⟩
    have hB3 := Lib.hid (Below.next (below_drewN hB1.out nd) hB1.out.size hb3)
    clear hb3
    go_wp2
    go_ret
    exact ⟨rfl, hB3.out⟩
  · have hF := Lib.hid (hfew rfl)
    have hl : L.length ≤ 100 := hF.out.len
    have hRq := Lib.hid (fun w h => request_any L (.string m) (.string t) (.slice A L.length cap) w ⟨_, rfl⟩ ⟨_, rfl⟩ hl h)
    have hOf := Lib.hid (fun w B cap' h => of_request L m t B cap' w hF.out h)
    have hRf := Lib.hid (fun w h => ref_request L m t A cap w hF.out h)
    have hNm := Lib.hid (fun w => num_any (frame 1 L).2 w)
    have hIs := Lib.hid (fun w => is_same (frame 1 L) w)
    have hnn := beq_self_eq_true (frame 1 L).2
    clear hfew
    generalize frame 1 L = fr at *
    go_wp2_with fail
    refine (hRq.out _ (hR1.out.drewN nd)).mono ?_
    rintro e w3 ⟨o, rfl, hR3, hb3⟩
    obtain ⟨B, cap', rfl, -, -, -⟩ := id hR3
    have hb3' : Below w1.heap.size w1 w3 := ⟨hb3.os, hb3.tape, hb3.output, hb3.size, hb3.block⟩
    have hA3 := hA1.out.below hb3'
    have hR13 := Lib.hid (hR1.out.below hb3')
    have hB3 := Below.next hB1.out hB1.out.size hb3'
    clear hb3 hb3'
    go_wp2_with fail
    refine (hOf.out _ _ _ hR3).mono ?_
    rintro e w4 ⟨rfl, hb4⟩
    have hA4 := hA3.below hb4
    have hR4 := Lib.hid ((hR13.out.below hb4).below ((Below.refl w4.heap.size w4).alloc (Nat.le_refl _) (.cells #[.int .i64 (fr.1.1 : Int), .int .i64 (fr.1.2 : Int)] 28)))
    have hB4 := Lib.hid (Below.next hB3 hB3.size hb4)
    have hB4s := hB4.out.size
    have hA5 := hA4.alloc (.cells #[.int .i64 (fr.1.1 : Int), .int .i64 (fr.1.2 : Int)] 28)
    have d0 : (w4.alloc (.cells #[.int .i64 (fr.1.1 : Int), .int .i64 (fr.1.2 : Int)] 28)).cell? ⟨G, 0, none⟩ = some (.string m) := hA5.cell 0
    have d1 : (w4.alloc (.cells #[.int .i64 (fr.1.1 : Int), .int .i64 (fr.1.2 : Int)] 28)).cell? ⟨G, 1, none⟩ = some (.string t) := hA5.cell 1
    have d2 : (w4.alloc (.cells #[.int .i64 (fr.1.1 : Int), .int .i64 (fr.1.2 : Int)] 28)).cell? ⟨G, 2, none⟩ = some (.slice A L.length cap) := hA5.cell 2
    clear hb4 hA3 hA4 hA5 hB3 c0 c1 c2 hR3 hA1
    have hFV : frameV fr = .agg #[.int .i64 (fr.1.1 : Int), .int .i64 (fr.1.2 : Int)] := rfl
    generalize hev : errV fr.2 = ev at *
    replace hev := Lib.hid hev
    rw [hFV]
    go_wp2_with fail
    have hN1 := Lib.hid (Blk.new w4 28 #[.int .i64 (fr.1.1 : Int), .int .i64 (fr.1.2 : Int)])
    have hB5 := hB4.out.alloc hB4s (.cells #[.int .i64 (fr.1.1 : Int), .int .i64 (fr.1.2 : Int)] 28)
    refine (hRf.out _ hR4.out).mono ?_
    rintro e w6 ⟨rfl, hb6⟩
    have hN6 := hN1.out.below hb6
    have hB6 := Lib.hid (Below.next hB5 hB5.size hb6)
    have hB6s := hB6.out.size
    have hN7 := hN6.alloc (.cells #[.int .i64 (fr.1.1 : Int), .int .i64 (fr.1.2 : Int)] 38)
    have hB7 := Lib.hid (hB6.out.alloc hB6s (.cells #[.int .i64 (fr.1.1 : Int), .int .i64 (fr.1.2 : Int)] 38))
    have k0 : (w6.alloc (.cells #[.int .i64 (fr.1.1 : Int), .int .i64 (fr.1.2 : Int)] 38)).cell? ⟨w4.heap.size, 0, none⟩ = some (.int .i64 (fr.1.1 : Int)) := hN7.cell 0
    have k1 : (w6.alloc (.cells #[.int .i64 (fr.1.1 : Int), .int .i64 (fr.1.2 : Int)] 38)).cell? ⟨w4.heap.size, 1, none⟩ = some (.int .i64 (fr.1.2 : Int)) := hN7.cell 1
    clear hb6 hB5 hN6 hN7 d0 d1 d2
    rw [hFV]
    go_wp2_with fail
    refine (hNm.out _).mono ?_
    rintro e w7 ⟨rfl, hw7⟩
    subst hw7
    go_wp2_with fail
    refine (hIs.out _).mono ?_
    rintro e w8 ⟨rfl, hb8⟩
    have hB8 := Lib.hid (Below.next hB7.out hB7.out.size hb8)
    clear hb8
    go_wp2
    go_ret
    exact ⟨rfl, hB8.out⟩
end Go.Proofs.YtodgkppjabhhlaaDoor
