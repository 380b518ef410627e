/-
  Layer 5: the walk of HeadRequests.
-/
import Derived.Test.YtibcbaghgpemfaaGreatDoorHLast
import Derived.Test.YtibcbaghgpemfaaGreatDoorGByt
import Derived.IntWalk
namespace Go.Proofs.YtibcbaghgpemfaaGreatDoor
open Go.RowKit Syn Fr Hd Ck

set_option maxRecDepth 100000 in
set_option maxHeartbeats 16000000 in
theorem requests_walk (l : List UInt8) (w : World) (hll : l.length ≤ 140737488355328) (hT : Tab10 w) (hM : MaxL w) :
    Calls Tryz.prog 6 #[.string (str l)] w fun e w' => e = .returned (.bool true) ∧ Below w.heap.size w w' := by
  have hAw := Lib.hid (fun w' (hb : Below w.heap.size w w') => hawake_any w' (hT.below hb))
  have hRq := Lib.hid (fun (b : List UInt8) (g : Nat) (c : Nat) (w' : World) (hb : Below w.heap.size w w') (hl : b.length ≤ 100000) h => rdreq_own b (some ⟨g, 0, none⟩) c w' h (by omega) (fun e => by cases e) (hM.below hb))
  replace hT := Lib.hid hT
  replace hM := Lib.hid hM
  have zx := str_size l
  have hDr := fun w (h : l.length ≤ 1000000) => rreadreq_any (str l) w (by rw [str_size]; exact h)
  rw [bs_str] at hDr
  replace hDr := Lib.hid hDr
  obtain ⟨cf, wf, hcx1, hcx2, hcx3, hcx4, hcx5⟩ : ∃ (cf : World → Nat) (wf : World → World), (∀ W, (convert 9 23 (.string (str l))).run Tryz.prog W = .ok (.slice (some ⟨W.heap.size, 0, none⟩) l.length (cf W)) (wf W)) ∧ (∀ W, Rd (wf W) 1 (.slice (some ⟨W.heap.size, 0, none⟩) l.length (cf W)) l.length (u8s l)) ∧ (∀ W, Below W.heap.size W (wf W)) ∧ (∀ W, InR (wf W) W.heap.size l.length) ∧ (∀ W, (wf W).heap.size = W.heap.size + 1) :=
    ⟨fun W => grownCap W l.length 0 5, fun W => Lib.bytesWorld W 5 (str l), fun W => Lib.run_convert_string_bytes W 9 23 5 (str l) Tryz.underlying9 Tryz.underlying23 Tryz.underlying5, fun W => (OwnM.conv W l).rd, fun W => conv_below W l, fun W => InR.conv W l, fun W => Lib.bytesWorld_size W _ _⟩
  replace hcx2 := Lib.hid hcx2
  replace hcx3 := Lib.hid hcx3
  replace hcx4 := Lib.hid hcx4
  replace hcx5 := Lib.hid hcx5
  obtain ⟨sx, hsx⟩ : ∃ s, str l = s := ⟨_, rfl⟩
  rw [hsx] at zx hcx1 hDr ⊢
  replace hsx := Lib.hid hsx
  go_enter Tryz.func6, Tryz.ntmps6
  go_wp2_with fail
  refine (hAw.out _ (Below.refl _ _)).mono ?_
  rintro e w1 ⟨rfl, hb1⟩
  replace hb1 := Lib.hid hb1
  by_cases h20 : 20000 < l.length
  · go_wp2_with fail
    refine (hAw.out _ hb1.out).mono ?_
    rintro e w2 ⟨rfl, hb2⟩
    have hB2 := Lib.hid (Below.next hb1.out hb1.out.size hb2)
    clear hb2
    go_wp2
    go_ret
    exact ⟨rfl, hB2.out⟩
  · have hB2 := Lib.hid (Below.next hb1.out hb1.out.size (hcx3.out w1))
    have hq1 := Lib.hid (hRq.out l _ _ _ hB2.out (by omega) (hcx2.out w1))
    have hD1 := Lib.hid (fun w => (hDr.out w (by omega)).mono fun _ _ h => h.form)
    have hI1 := Lib.hid (hcx4.out w1)
    have hS1 := Lib.hid (hcx5.out w1)
    have hfew := rqL_few l
    have hN := fun w => num_any (rqE l) w
    have hq2 := Lib.hid (hq1.out.mono fun _ _ h => h.form)
    clear hq1
    generalize str (rqM0 l) = sm at *
    generalize str (rqT0 l) = st at *
    generalize rqL0 l = L0 at *
    generalize rqN0 l = n0 at *
    generalize hev : errV (rqE l) = ev at *
    generalize rqE l = E at *
    replace hev := Lib.hid hev
    replace hN := Lib.hid hN
    have hAk := Lib.hid (fun v1 v2 w h1 h2 => same_yes L0 sm st v1 v2 w h1 h2 hfew)
    replace hfew := Lib.hid hfew
    go_wp2_with fail
    refine hq2.out.mono ?_
    rintro e w3 ⟨o3, rfl, ho3, hb3⟩
    have hB3 := Lib.hid (Below.next hB2.out hB2.out.size hb3)
    have hI3 := Lib.hid (hI1.out.below hb3)
    have hr3 := Lib.hid (Rd.own ho3)
    obtain ⟨A3, c3, rfl, -, -, -⟩ := id hr3.out
    have hoff : Off (· = w1.heap.size) (.slice A3 L0.length c3) := fun k hk e => by
      have h1 := (World.ownsRow.lt ho3 k hk).1
      have h2 := hS1.out
      omega
    replace hoff := Lib.hid hoff
    clear ho3 hb3
    have hz3 := hB3.out.size
    have hg3 := hI3.out.1
    have hg0 : w.heap.size ≤ w1.heap.size := hb1.out.size
    go_upto_region 5 with (fail)
    have hK4 := Lib.hid (Blk.new w3 30 #[.string sm, .string st, .slice A3 L0.length c3])
    have hb4 := (Below.refl w3.heap.size w3).alloc (Nat.le_refl _) (.cells #[.string sm, .string st, .slice A3 L0.length c3] 30)
    generalize w3.alloc (.cells #[.string sm, .string st, .slice A3 L0.length c3] 30) = w4 at *
    have hB4 := Lib.hid (Below.next hB3.out hz3 hb4)
    have hr4 := Lib.hid (hr3.out.below hb4)
    have hI4 := Lib.hid (hI3.out.below hb4)
    have hz4 := hB4.out.size
    have hg4 := hI4.out.1
    clear hb4
    go_wp2
    go_loopw [7] (fun i wr => ∃ k : Nat, i = .int .i64 (k : Int) ∧ k ≤ l.length ∧ Hid (InR wr w1.heap.size l.length) ∧ Hid (Kp (· = w1.heap.size) w4 wr)) (fun i _ => l.length - (intOf i).toNat)
    case atStart => exact ⟨0, rfl, by omega, hI4, Lib.hid (Kp.refl _ _)⟩
    case round =>
      obtain ⟨k, rfl, hk, hI, hKp⟩ := hrel
      by_cases hlt : k < l.length
      · obtain ⟨⟨z, z0, z1, cz⟩, fz⟩ := hI.out.2 k hlt
        have hI' := Lib.hid (hI.out.set hlt (u8_range (z + 1)).1 (u8_range (z + 1)).2)
        have hKp' := Lib.hid (hKp.out.set_ (g := w1.heap.size) (fun _ => rfl) k (.int .u8 (IntKind.u8.wrap (z + 1))))
        go_wp2
        go_roundw
        case rel => exact ⟨k + 1, by go_num, by omega, hI', hKp'⟩
        case measure => simp only [intOf]; omega
      · obtain rfl : k = l.length := by omega
        have hr := Lib.hid (hr4.out.kp hoff.out hKp.out)
        have hK := Lib.hid (hK4.out.kp (F := (· = w1.heap.size)) (fun e => by omega) hKp.out)
        have hB := Lib.hid (hB4.out.trans (hKp.out.toBelow (by omega) (fun k e => by omega)))
        have hz := hB.out.size
        clear hI hKp
        go_wp2_with fail
        refine (hD1.out _).mono ?_
        rintro e w5 ⟨o5, rfl, ho5, hb5⟩
        have hK5 := Lib.hid (hK.out.below hb5)
        have hr5 := Lib.hid (hr.out.below hb5)
        have hB5 := Lib.hid (Below.next hB.out hz hb5)
        have hs5 := Lib.hid (Rd.own ho5)
        obtain ⟨A5, c5, rfl, -, -, -⟩ := id hs5.out
        clear ho5 hb5
        have hz5 := hB5.out.size
        go_upto_region 10 with (fail)
        have hK6 := Lib.hid (hK5.out.alloc (.cells #[.string sm, .string st, .slice A5 L0.length c5] 71))
        have hL6 := Lib.hid (Blk.new w5 71 #[.string sm, .string st, .slice A5 L0.length c5])
        have hb6 := (Below.refl w5.heap.size w5).alloc (Nat.le_refl _) (.cells #[.string sm, .string st, .slice A5 L0.length c5] 71)
        generalize w5.alloc (.cells #[.string sm, .string st, .slice A5 L0.length c5] 71) = w6 at *
        have hB6 := Lib.hid (Below.next hB5.out hz5 hb6)
        have hr6 := Lib.hid (hr5.out.below hb6)
        have hs6 := Lib.hid (hs5.out.below hb6)
        clear hb6
        go_wp2_with fail
        refine (hN.out _).mono ?_
        rintro e w7 ⟨rfl, rfl⟩
        have f0 := hK6.out.cell 0
        have f1 := hK6.out.cell 1
        have f4 := hK6.out.cell 2
        have f2 := hL6.out.cell 0
        have f3 := hL6.out.cell 1
        have f5 := hL6.out.cell 2
        go_wp2_with fail
        refine (hAk.out _ _ _ hr6.out hs6.out).mono ?_
        rintro e w8 ⟨rfl, hb8⟩
        have hB8 := Lib.hid (Below.next hB6.out hB6.out.size hb8)
        clear hb8
        go_wp2
        go_ret
        exact ⟨rfl, hB8.out⟩
end Go.Proofs.YtibcbaghgpemfaaGreatDoor
