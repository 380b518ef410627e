/-
  Layer 5: the walk of HeadResponses.
-/
import Derived.Test.YtibcbaghgpemfaaGreatDoorHDRead
import Derived.Test.YtibcbaghgpemfaaGreatDoorGWr
import Derived.Deep.RegionHeld3
namespace Go.Proofs.YtibcbaghgpemfaaGreatDoor
open Go.RowKit Syn Fr Hd Ck

namespace Hd
def rrS0 (b : List UInt8) : Int := if rrE b = 0 then rrS b else 0
def rrL0 (b : List UInt8) : List (List UInt8 × List UInt8) := if rrE b = 0 then rrL b else []
def rrN0 (b : List UInt8) : Int := if rrE b = 0 then endF b else 0
def rqM0 (b : List UInt8) : List UInt8 := if rqE b = 0 then rqM b else []
def rqT0 (b : List UInt8) : List UInt8 := if rqE b = 0 then rqT b else []
def rqL0 (b : List UInt8) : List (List UInt8 × List UInt8) := if rqE b = 0 then rqL b else []
def rqN0 (b : List UInt8) : Int := if rqE b = 0 then endF b else 0
theorem RrO.form {w w' : World} {b : List UInt8} {e : Ending} (h : RrO w b e w') : ∃ o, e = .returned (.tuple #[.agg #[.int .i64 (rrS0 b), o], .int .i64 (rrN0 b), errV (rrE b)]) ∧ Own w' w.heap.size 26 2 o (rrL0 b).length (prs (rrL0 b)) ∧ Below w.heap.size w w' := by
  obtain ⟨⟨h0, h1⟩ | ⟨h0, o, h1, h2⟩, hb⟩ := h
  · refine ⟨.slice none 0 0, ?_, ?_, hb⟩
    · unfold rrS0 rrN0 errV
      rw [if_neg h0, if_neg h0, if_neg h0]; exact h1
    · unfold rrL0; rw [if_neg h0]; exact own_nil _ _ _ _
  · refine ⟨o, ?_, ?_, hb⟩
    · unfold rrS0 rrN0 errV
      rw [if_pos h0, if_pos h0, if_pos h0]; exact h1
    · unfold rrL0; rw [if_pos h0]; exact h2
theorem DrR.form {w w' : World} {b : List UInt8} {e : Ending} (h : DrR w b e w') : ∃ o, e = .returned (.tuple #[.agg #[.int .i64 (rrS0 b), o], .int .i64 (rrN0 b), .int .i64 (rrE b)]) ∧ Own w' w.heap.size 170 2 o (rrL0 b).length (prs (rrL0 b)) ∧ Below w.heap.size w w' := by
  obtain ⟨⟨h0, h1⟩ | ⟨h0, o, h1, h2⟩, hb⟩ := h
  · refine ⟨.slice none 0 0, ?_, ?_, hb⟩
    · unfold rrS0 rrN0
      rw [if_neg h0, if_neg h0]; exact h1
    · unfold rrL0; rw [if_neg h0]; exact own_nil _ _ _ _
  · refine ⟨o, ?_, ?_, hb⟩
    · unfold rrS0 rrN0
      rw [if_pos h0, if_pos h0, h0]; exact h1
    · unfold rrL0; rw [if_pos h0]; exact h2
theorem RqO.form {w w' : World} {b : List UInt8} {e : Ending} (h : RqO w b e w') : ∃ o, e = .returned (.tuple #[.agg #[.string (str (rqM0 b)), .string (str (rqT0 b)), o], .int .i64 (rqN0 b), errV (rqE b)]) ∧ Own w' w.heap.size 26 2 o (rqL0 b).length (prs (rqL0 b)) ∧ Below w.heap.size w w' := by
  obtain ⟨⟨h0, h1⟩ | ⟨h0, o, h1, h2⟩, hb⟩ := h
  · refine ⟨.slice none 0 0, ?_, ?_, hb⟩
    · unfold rqM0 rqT0 rqN0 errV
      rw [if_neg h0, if_neg h0, if_neg h0, if_neg h0]; exact h1
    · unfold rqL0; rw [if_neg h0]; exact own_nil _ _ _ _
  · refine ⟨o, ?_, ?_, hb⟩
    · unfold rqM0 rqT0 rqN0 errV
      rw [if_pos h0, if_pos h0, if_pos h0, if_pos h0]; exact h1
    · unfold rqL0; rw [if_pos h0]; exact h2
theorem DqR.form {w w' : World} {b : List UInt8} {e : Ending} (h : DqR w b e w') : ∃ o, e = .returned (.tuple #[.agg #[.string (str (rqM0 b)), .string (str (rqT0 b)), o], .int .i64 (rqN0 b), .int .i64 (rqE b)]) ∧ Own w' w.heap.size 170 2 o (rqL0 b).length (prs (rqL0 b)) ∧ Below w.heap.size w w' := by
  obtain ⟨⟨h0, h1⟩ | ⟨h0, o, h1, h2⟩, hb⟩ := h
  · refine ⟨.slice none 0 0, ?_, ?_, hb⟩
    · unfold rqM0 rqT0 rqN0
      rw [if_neg h0, if_neg h0, if_neg h0]; exact h1
    · unfold rqL0; rw [if_neg h0]; exact own_nil _ _ _ _
  · refine ⟨o, ?_, ?_, hb⟩
    · unfold rqM0 rqT0 rqN0
      rw [if_pos h0, if_pos h0, if_pos h0, h0]; exact h1
    · unfold rqL0; rw [if_pos h0]; exact h2
theorem rqL_few (b : List UInt8) : (rqL0 b).length ≤ 1000 := by
  unfold rqL0
  split
  · next h =>
    have := lnE_few (rqE_ok h)
    unfold rqL rqF
    rw [List.length_map, List.length_map, List.length_tail]; omega
  · exact Nat.zero_le _
theorem rrL_few (b : List UInt8) : (rrL0 b).length ≤ 1000 := by
  unfold rrL0
  split
  · next h =>
    have hl : lnE b = 0 := by
      unfold rrE at h
      split at h
      · assumption
      · exact h
    have := lnE_few hl
    unfold rrL
    rw [List.length_map, List.length_tail]; omega
  · exact Nat.zero_le _
end Hd
set_option maxHeartbeats 4000000 in
theorem alike_yes (L : List (List UInt8 × List UInt8)) (z : Int) (v1 v2 : Value) (w : World) (h1 : Rd w 2 v1 L.length (prs L)) (h2 : Rd w 2 v2 L.length (prs L)) (hm : L.length ≤ 1000) :
    Calls Tryz.prog 30 #[.agg #[.int .i64 z, v1], .agg #[.int .i64 z, v2]] w fun e w' => e = .returned (.bool true) ∧ Below w.heap.size w w' := by
  have hA := Lib.hid (fun w1 (hb : Below w.heap.size w w1) => are_any w1 (h1.below hb) (h2.below hb) rfl hm)
  go_enter Tryz.func30, Tryz.ntmps30
  go_wp2_with fail
  have hB := Lib.hid (((Below.refl w.heap.size w).alloc (Nat.le_refl _) (.cells #[.int .i64 z, v1] 57)).alloc (by rw [alloc_size']; omega) (.cells #[.int .i64 z, v2] 62))
  refine (hA.out _ hB.out).mono ?_
  rintro e w2 ⟨rfl, n, rfl⟩
  have hB2 := Lib.hid (below_drewN hB.out n)
  go_wp2
  go_ret
  exact ⟨rfl, hB2.out⟩
set_option maxHeartbeats 4000000 in
theorem same_yes (L : List (List UInt8 × List UInt8)) (m t : ByteArray) (v1 v2 : Value) (w : World) (h1 : Rd w 2 v1 L.length (prs L)) (h2 : Rd w 2 v2 L.length (prs L)) (hm : L.length ≤ 1000) :
    Calls Tryz.prog 33 #[.agg #[.string m, .string t, v1], .agg #[.string m, .string t, v2]] w fun e w' => e = .returned (.bool true) ∧ Below w.heap.size w w' := by
  have hA := Lib.hid (fun w1 (hb : Below w.heap.size w w1) => are_any w1 (h1.below hb) (h2.below hb) rfl hm)
  go_enter Tryz.func33, Tryz.ntmps33
  go_wp2_with fail
  have hB := Lib.hid (((Below.refl w.heap.size w).alloc (Nat.le_refl _) (.cells #[.string m, .string t, v1] 30)).alloc (by rw [alloc_size']; omega) (.cells #[.string m, .string t, v2] 71))
  refine (hA.out _ hB.out).mono ?_
  rintro e w2 ⟨rfl, n, rfl⟩
  have hB2 := Lib.hid (below_drewN hB.out n)
  go_wp2
  go_ret
  exact ⟨rfl, hB2.out⟩
set_option maxRecDepth 100000 in
set_option maxHeartbeats 16000000 in
theorem responses_walk (l : List UInt8) (w : World) (hll : l.length ≤ 140737488355328) (hT : Tab10 w) (hM : MaxL w) :
    Calls Tryz.prog 5 #[.string (str l)] w fun e w' => e = .returned (.bool true) ∧ Below w.heap.size w w' := by
  have hAw := Lib.hid (fun w' (hb : Below w.heap.size w w') => hawake_any w' (hT.below hb))
  have hRq := Lib.hid (fun (b : List UInt8) (g : Nat) (c : Nat) (w' : World) (hb : Below w.heap.size w w') (hl : b.length ≤ 100000) h => rdresp_own b (some ⟨g, 0, none⟩) c w' h (by omega) (fun e => by cases e) (hM.below hb))
  replace hT := Lib.hid hT
  replace hM := Lib.hid hM
  have zx := str_size l
  have hDr := fun w (h : l.length ≤ 1000000) => rreadresp_any (str l) w (by rw [str_size]; exact h)
  rw [bs_str] at hDr
  replace hDr := Lib.hid hDr
  obtain ⟨cf, wf, hcx1, hcx2, hcx3⟩ : ∃ (cf : World → Nat) (wf : World → World), (∀ W, (convert 9 23 (.string (str l))).run Tryz.prog W = .ok (.slice (some ⟨W.heap.size, 0, none⟩) l.length (cf W)) (wf W)) ∧ (∀ W, Rd (wf W) 1 (.slice (some ⟨W.heap.size, 0, none⟩) l.length (cf W)) l.length (u8s l)) ∧ (∀ W, Below W.heap.size W (wf W)) :=
    ⟨fun W => grownCap W l.length 0 5, fun W => Lib.bytesWorld W 5 (str l), fun W => Lib.run_convert_string_bytes W 9 23 5 (str l) Tryz.underlying9 Tryz.underlying23 Tryz.underlying5, fun W => (OwnM.conv W l).rd, fun W => conv_below W l⟩
  replace hcx2 := Lib.hid hcx2
  replace hcx3 := Lib.hid hcx3
  obtain ⟨sx, hsx⟩ : ∃ s, str l = s := ⟨_, rfl⟩
  rw [hsx] at zx hcx1 hDr ⊢
  replace hsx := Lib.hid hsx
  go_enter Tryz.func5, Tryz.ntmps5
  go_wp2_with fail
  refine (hAw.out _ (Below.refl _ _)).mono ?_
  rintro e w1 ⟨rfl, hb1⟩
  replace hb1 := Lib.hid hb1
  by_cases h20 : 20000 < l.length
  · go_wp2_with fail
    refine (hAw.out _ hb1.out).mono ?_
    rintro e w2 ⟨rfl, hb2⟩
    have hB2 := Lib.hid (Below.next hb1.out hb1.out.size hb2)
    clear hb2
    go_wp2
    go_ret
    exact ⟨rfl, hB2.out⟩
  · have hB2 := Lib.hid (Below.next hb1.out hb1.out.size (hcx3.out w1))
    have hq1 := Lib.hid (hRq.out l _ _ _ hB2.out (by omega) (hcx2.out w1))
    have hD1 := Lib.hid (fun w => (hDr.out w (by omega)).mono fun _ _ h => h.form)
    have hfew := rrL_few l
    have hN := fun w => num_any (rrE l) w
    have hq2 := Lib.hid (hq1.out.mono fun _ _ h => h.form)
    clear hq1
    generalize rrS0 l = z at *
    generalize rrL0 l = L0 at *
    generalize rrN0 l = n0 at *
    generalize hev : errV (rrE l) = ev at *
    generalize rrE l = E at *
    replace hev := Lib.hid hev
    replace hN := Lib.hid hN
    have hAk := Lib.hid (fun v1 v2 w h1 h2 => alike_yes L0 z v1 v2 w h1 h2 hfew)
    replace hfew := Lib.hid hfew
    go_wp2_with fail
    refine hq2.out.mono ?_
    rintro e w3 ⟨o3, rfl, ho3, hb3⟩
    have hB3 := Lib.hid (Below.next hB2.out hB2.out.size hb3)
    have hr3 := Lib.hid (Rd.own ho3)
    obtain ⟨A3, c3, rfl, -, -, -⟩ := id hr3.out
    clear ho3 hb3
    have hz3 := hB3.out.size
    go_wp2_with fail
    refine (hD1.out _).mono ?_
    rintro e w5 ⟨o5, rfl, ho5, hb5⟩
    have hK5 := Lib.hid ((Blk.new w3 57 #[.int .i64 z, .slice A3 L0.length c3]).below hb5)
    have hr5 := Lib.hid ((hr3.out.below ((Below.refl w3.heap.size w3).alloc (Nat.le_refl _) (.cells #[.int .i64 z, .slice A3 L0.length c3] 57))).below hb5)
    have hB5 := Lib.hid (Below.next (hB3.out.alloc hz3 (.cells #[.int .i64 z, .slice A3 L0.length c3] 57)) (by rw [alloc_size']; omega) hb5)
    have hs5 := Lib.hid (Rd.own ho5)
    obtain ⟨A5, c5, rfl, -, -, -⟩ := id hs5.out
    clear ho5 hb5
    have hz5 := hB5.out.size
    go_upto_region 5 with (fail)
    have hK6 := Lib.hid (hK5.out.alloc (.cells #[.int .i64 z, .slice A5 L0.length c5] 62))
    have hL6 := Lib.hid (Blk.new w5 62 #[.int .i64 z, .slice A5 L0.length c5])
    have hb6 := (Below.refl w5.heap.size w5).alloc (Nat.le_refl _) (.cells #[.int .i64 z, .slice A5 L0.length c5] 62)
    generalize w5.alloc (.cells #[.int .i64 z, .slice A5 L0.length c5] 62) = w6 at *
    have hB6 := Lib.hid (Below.next hB5.out hz5 hb6)
    have hr6 := Lib.hid (hr5.out.below hb6)
    have hs6 := Lib.hid (hs5.out.below hb6)
    clear hb6
    go_wp2_with fail
    refine (hN.out _).mono ?_
    rintro e w7 ⟨rfl, rfl⟩
    have f0 := hK6.out.cell 0
    have f1 := hK6.out.cell 1
    have f2 := hL6.out.cell 0
    have f3 := hL6.out.cell 1
    go_wp2_with fail
    refine (hAk.out _ _ _ hr6.out hs6.out).mono ?_
    rintro e w8 ⟨rfl, hb8⟩
    have hB8 := Lib.hid (Below.next hB6.out hB6.out.size hb8)
    clear hb8
    go_wp2
    go_ret
    exact ⟨rfl, hB8.out⟩
end Go.Proofs.YtibcbaghgpemfaaGreatDoor
