/-
  The walk of TierEdges.
-/
import Derived.Test.YtkcipebpknapkaaGreatDoorTRings
import Derived.Test.YtkcipebpknapkaaGreatDoorTREdge
import Derived.Deep.RegionHeld3
namespace Go.Proofs.YtkcipebpknapkaaGreatDoor
open Go.Shelf Go.RowKit Go.Lib Go.Sort Rg Syn Ti
/-- The cells of a case. -/
abbrev caseC (vs vu vp : Value) (self key : Bytes) (tries : Int) : Array Value := #[vs, vu, vp, .string (str self), .string (str key), .int .i64 tries]
/-- Owners of a ring of shields, with any bound that is high enough. -/
theorem shield_owners (w : World) (B loc : Nat) (v1 v2 : Value) (L : List Nd) (key : Bytes) (hr : Ring2 w B loc v1 v2 (ascOf L) (ptsOf L)) (hg : GoodS L) (hL : L.length ≤ 1000) (hkey : key.length ≤ 1000000) :
    Calls Tryz.prog 12 #[.pointer (some ⟨loc, 0, none⟩), .string (str key), .int .i64 1000] w fun e w' => ∃ A c, e = .returned (.slice A L.length c) ∧ Hid (Rd w' 1 (.slice A L.length c) L.length (strs (own (ptsOf L) (Sk.hash 255 key)))) ∧ Below w.heap.size w w' := by
  have h := owners_any w B loc v1 v2 (ascOf L) (ptsOf L) key 1000 hr (srt_srt _) hg.good.sub (by rw [hg.good.len]; omega) (by have := hg.plen; omega) hkey (by omega)
  rw [hg.good.owners_all _ _ (by omega), hg.good.own_len] at h
  refine h.mono ?_
  rintro e w' ⟨o, rfl, ho, hb⟩
  obtain ⟨A, c, rfl, -, -, -⟩ := Rd.own ho
  exact ⟨A, c, rfl, Rd.own ho, hb⟩
set_option maxRecDepth 100000 in
set_option maxHeartbeats 16000000 in
theorem edges_walk (w : World) (vs vu : Value) (AP : Option Addr) (cP : Nat) (sh up pa : List Bytes) (self key : Bytes) (tries : Int) (h0 : Rd w 1 vs sh.length (strs sh)) (h1 : Rd w 1 vu up.length (strs up)) (h2 : Rd w 1 (.slice AP pa.length cP) pa.length (strs pa)) (hnil : AP = none → cP = 0) (hS : sumB sh + sumB up + sumB pa ≤ 4611686018427387904) (hs : self.length ≤ 1048576) (hk : key.length ≤ 1048576) :
    Calls Tryz.prog 3 #[.agg (caseC vs vu (.slice AP pa.length cP) self key tries)] w fun e w' => e = .returned (.bool true) ∧ Below w.heap.size w w' := by
  obtain ⟨A0, c0, rfl, -, -, -⟩ := id h0
  obtain ⟨A1, c1, rfl, -, -, -⟩ := id h1
  have hB1 := Lib.hid (show Below w.heap.size w (w.alloc (.cells (caseC (.slice A0 sh.length c0) (.slice A1 up.length c1) (.slice AP pa.length cP) self key tries) 24)) from (Below.refl _ _).alloc (Nat.le_refl _) _)
  have hC := blk_new w 24 (caseC (.slice A0 sh.length c0) (.slice A1 up.length c1) (.slice AP pa.length cP) self key tries)
  have H0 := Lib.hid h0
  have H1 := Lib.hid h1
  have H2 := Lib.hid h2
  have hl3 := Lib.hid (fun X (hX : Below w.heap.size w X) => (show Calls Tryz.prog 7 #[.slice (some ⟨X.heap.size, 0, none⟩) 3 3] (X.alloc (.cells #[.slice A0 sh.length c0, .slice A1 up.length c1, .slice AP pa.length cP] 22)) fun e w' => e = .returned (.bool (decide (2000 < sumB sh + sumB up + sumB pa))) ∧ w' = X.alloc (.cells #[.slice A0 sh.length c0, .slice A1 up.length c1, .slice AP pa.length cP] 22) from by
    have hb : Below w.heap.size w (X.alloc (.cells #[.slice A0 sh.length c0, .slice A1 up.length c1, .slice AP pa.length cP] 22)) := hX.alloc hX.size _
    exact long3_any sh up pa _ _ _ X.heap.size _ (blk_new X 22 _) (h0.below hb) (h1.below hb) (h2.below hb) hS))
  clear h0 h1 h2
  have hss : (str self).size = self.length := str_size self
  have hks : (str key).size = key.length := str_size key
  have wS : IntKind.i64.wrap (((str self).size : Int) + ((str key).size : Int)) = ((str self).size : Int) + ((str key).size : Int) := IntWalk.i64_in _ (by omega)
  have hlt0 := hC.lt
  have HC := Lib.hid hC
  clear hC
  by_cases hS2 : 2000 < sumB sh + sumB up + sumB pa
  · rw [decide_eq_true hS2] at hl3
    clear hS2
    go_enter Tryz.func3, Tryz.ntmps3
    go_upto_region 1 with fail
    generalize w.alloc (.cells (caseC (.slice A0 sh.length c0) (.slice A1 up.length c1) (.slice AP pa.length cP) self key tries) 24) = wB at *
    generalize w.heap.size = g at HC hlt0 ⊢
    have d0 : wB.cell? ⟨g, 0, none⟩ = some (.slice A0 sh.length c0) := HC.out.cell 0
    have d1 : wB.cell? ⟨g, 1, none⟩ = some (.slice A1 up.length c1) := HC.out.cell 1
    have d2 : wB.cell? ⟨g, 2, none⟩ = some (.slice AP pa.length cP) := HC.out.cell 2
    go_wp2_with fail
    refine (hl3.out wB hB1.out).mono ?_
    rintro e w1 ⟨rfl, rfl⟩
    have hB2 := Lib.hid (show Below w.heap.size w (wB.alloc (.cells #[.slice A0 sh.length c0, .slice A1 up.length c1, .slice AP pa.length cP] 22)) from hB1.out.alloc hB1.out.size _) 
    have hC2 := Lib.hid (HC.out.alloc (.cells #[.slice A0 sh.length c0, .slice A1 up.length c1, .slice AP pa.length cP] 22))
    clear HC d0 d1 d2
    have HC := hC2
    generalize wB.alloc (.cells #[.slice A0 sh.length c0, .slice A1 up.length c1, .slice AP pa.length cP] 22) = w2 at *
    clear hC2
    have hgl := HC.out.lt
    have d0 : w2.cell? ⟨g, 0, none⟩ = some (.slice A0 sh.length c0) := HC.out.cell 0
    have d1 : w2.cell? ⟨g, 1, none⟩ = some (.slice A1 up.length c1) := HC.out.cell 1
    have d2 : w2.cell? ⟨g, 2, none⟩ = some (.slice AP pa.length cP) := HC.out.cell 2
    go_wp2_with fail
    refine (hl3.out w2 hB2.out).mono ?_
    rintro e w3 ⟨rfl, rfl⟩
    have hB3 := Lib.hid (show Below w.heap.size w (w2.alloc (.cells #[.slice A0 sh.length c0, .slice A1 up.length c1, .slice AP pa.length cP] 22)) from hB2.out.alloc hB2.out.size _)
    go_wp2_with fail
    go_ret
    exact ⟨rfl, hB3.out⟩
  · rw [decide_eq_false hS2] at hl3
    by_cases h500 : 500 < self.length + key.length
    · have g5 : (500 : Int) < ((str self).size : Int) + ((str key).size : Int) := by omega
      clear h500
      go_enter Tryz.func3, Tryz.ntmps3
      go_upto_region 1 with fail
      generalize w.alloc (.cells (caseC (.slice A0 sh.length c0) (.slice A1 up.length c1) (.slice AP pa.length cP) self key tries) 24) = wB at *
      generalize w.heap.size = g at HC hlt0 ⊢
      have d0 : wB.cell? ⟨g, 0, none⟩ = some (.slice A0 sh.length c0) := HC.out.cell 0
      have d1 : wB.cell? ⟨g, 1, none⟩ = some (.slice A1 up.length c1) := HC.out.cell 1
      have d2 : wB.cell? ⟨g, 2, none⟩ = some (.slice AP pa.length cP) := HC.out.cell 2
      have d3 : wB.cell? ⟨g, 3, none⟩ = some (.string (str self)) := HC.out.cell 3
      have d4 : wB.cell? ⟨g, 4, none⟩ = some (.string (str key)) := HC.out.cell 4
      go_wp2_with fail
      refine (hl3.out wB hB1.out).mono ?_
      rintro e w1 ⟨rfl, rfl⟩
      have hB2 := Lib.hid (show Below w.heap.size w (wB.alloc (.cells #[.slice A0 sh.length c0, .slice A1 up.length c1, .slice AP pa.length cP] 22)) from hB1.out.alloc hB1.out.size _) 
      have hC2 := Lib.hid (HC.out.alloc (.cells #[.slice A0 sh.length c0, .slice A1 up.length c1, .slice AP pa.length cP] 22))
      clear HC d0 d1 d2 d3 d4
      have HC := hC2
      generalize wB.alloc (.cells #[.slice A0 sh.length c0, .slice A1 up.length c1, .slice AP pa.length cP] 22) = w2 at *
      clear hC2
      have hgl := HC.out.lt
      have d0 : w2.cell? ⟨g, 0, none⟩ = some (.slice A0 sh.length c0) := HC.out.cell 0
      have d1 : w2.cell? ⟨g, 1, none⟩ = some (.slice A1 up.length c1) := HC.out.cell 1
      have d2 : w2.cell? ⟨g, 2, none⟩ = some (.slice AP pa.length cP) := HC.out.cell 2
      have d3 : w2.cell? ⟨g, 3, none⟩ = some (.string (str self)) := HC.out.cell 3
      have d4 : w2.cell? ⟨g, 4, none⟩ = some (.string (str key)) := HC.out.cell 4
      go_wp2_with fail
      refine (hl3.out w2 hB2.out).mono ?_
      rintro e w3 ⟨rfl, rfl⟩
      have hB3 := Lib.hid (show Below w.heap.size w (w2.alloc (.cells #[.slice A0 sh.length c0, .slice A1 up.length c1, .slice AP pa.length cP] 22)) from hB2.out.alloc hB2.out.size _)
      have hC3 := Lib.hid (HC.out.alloc (.cells #[.slice A0 sh.length c0, .slice A1 up.length c1, .slice AP pa.length cP] 22))
      clear HC d0 d1 d2 d3 d4
      have HC := hC3
      generalize w2.alloc (.cells #[.slice A0 sh.length c0, .slice A1 up.length c1, .slice AP pa.length cP] 22) = w3 at *
      clear hC3 hgl
      have hgl := HC.out.lt
      have d0 : w3.cell? ⟨g, 0, none⟩ = some (.slice A0 sh.length c0) := HC.out.cell 0
      have d1 : w3.cell? ⟨g, 1, none⟩ = some (.slice A1 up.length c1) := HC.out.cell 1
      have d2 : w3.cell? ⟨g, 2, none⟩ = some (.slice AP pa.length cP) := HC.out.cell 2
      have d3 : w3.cell? ⟨g, 3, none⟩ = some (.string (str self)) := HC.out.cell 3
      have d4 : w3.cell? ⟨g, 4, none⟩ = some (.string (str key)) := HC.out.cell 4
      go_wp2_with fail
      go_ret
      exact ⟨rfl, hB3.out⟩
    · have g5 : ¬ (500 : Int) < ((str self).size : Int) + ((str key).size : Int) := by omega
      clear h500
      have hS3 : sumB sh + sumB up + sumB pa ≤ 2000 := by omega
      clear hS2 hS
      go_enter Tryz.func3, Tryz.ntmps3
      go_upto_region 1 with fail
      generalize w.alloc (.cells (caseC (.slice A0 sh.length c0) (.slice A1 up.length c1) (.slice AP pa.length cP) self key tries) 24) = wB at *
      generalize w.heap.size = g at HC hlt0 ⊢
      have d0 : wB.cell? ⟨g, 0, none⟩ = some (.slice A0 sh.length c0) := HC.out.cell 0
      have d1 : wB.cell? ⟨g, 1, none⟩ = some (.slice A1 up.length c1) := HC.out.cell 1
      have d2 : wB.cell? ⟨g, 2, none⟩ = some (.slice AP pa.length cP) := HC.out.cell 2
      have d3 : wB.cell? ⟨g, 3, none⟩ = some (.string (str self)) := HC.out.cell 3
      have d4 : wB.cell? ⟨g, 4, none⟩ = some (.string (str key)) := HC.out.cell 4
      go_wp2_with fail
      refine (hl3.out wB hB1.out).mono ?_
      rintro e w1 ⟨rfl, rfl⟩
      have hB2 := Lib.hid (show Below w.heap.size w (wB.alloc (.cells #[.slice A0 sh.length c0, .slice A1 up.length c1, .slice AP pa.length cP] 22)) from hB1.out.alloc hB1.out.size _) 
      have hC2 := Lib.hid (HC.out.alloc (.cells #[.slice A0 sh.length c0, .slice A1 up.length c1, .slice AP pa.length cP] 22))
      clear HC d0 d1 d2 d3 d4
      have HC := hC2
      generalize wB.alloc (.cells #[.slice A0 sh.length c0, .slice A1 up.length c1, .slice AP pa.length cP] 22) = w2 at *
      clear hC2
      have hgl := HC.out.lt
      have d0 : w2.cell? ⟨g, 0, none⟩ = some (.slice A0 sh.length c0) := HC.out.cell 0
      have d1 : w2.cell? ⟨g, 1, none⟩ = some (.slice A1 up.length c1) := HC.out.cell 1
      have d2 : w2.cell? ⟨g, 2, none⟩ = some (.slice AP pa.length cP) := HC.out.cell 2
      have d3 : w2.cell? ⟨g, 3, none⟩ = some (.string (str self)) := HC.out.cell 3
      have d4 : w2.cell? ⟨g, 4, none⟩ = some (.string (str key)) := HC.out.cell 4
      go_wp2_with fail
      refine (tawake_any _).mono ?_
      rintro e w3 ⟨rfl, hb3⟩
      have hC3 := Lib.hid (HC.out.below hb3)
      have hB3 := Lib.hid (Below.next hB2.out hB2.out.size hb3)
      clear HC d0 d1 d2 d3 d4 hgl hb3 hB2 hB1 hl3
      have HC := hC3
      clear hC3
      have hgl := HC.out.lt
      have d0 : w3.cell? ⟨g, 0, none⟩ = some (.slice A0 sh.length c0) := HC.out.cell 0
      have d1 : w3.cell? ⟨g, 1, none⟩ = some (.slice A1 up.length c1) := HC.out.cell 1
      have d2 : w3.cell? ⟨g, 2, none⟩ = some (.slice AP pa.length cP) := HC.out.cell 2
      have d3 : w3.cell? ⟨g, 3, none⟩ = some (.string (str self)) := HC.out.cell 3
      have d4 : w3.cell? ⟨g, 4, none⟩ = some (.string (str key)) := HC.out.cell 4
      have d5 : w3.cell? ⟨g, 5, none⟩ = some (.int .i64 tries) := HC.out.cell 5
      have hsl0 : sumB sh ≤ 2000 := by omega
      have hul : up.length ≤ 100000 := by have := sumB_len up; omega
      have hpl : pa.length ≤ 100000 := by have := sumB_len pa; omega
      have hri := rings_any w3 _ sh (H0.out.below hB3.out) hsl0
      have hGS := Lib.hid (mkS_good sh)
      have hLn := mkS_len sh
      have hL1 : (mkS sh).length ≤ 1000 := by omega
      clear hLn
      generalize mkS sh = L at *
      go_wp2_with fail
      refine hri.mono ?_
      rintro e w4 ⟨loc, v1, v2, rfl, hr4, hb4⟩
      have hB4 := Lib.hid (Below.next hB3.out hB3.out.size hb4)
      have hC4 := Lib.hid (HC.out.below hb4)
      have hR4 := Lib.hid hr4
      clear HC d0 d1 d2 d3 d4 d5 hgl hri hb4 hr4
      have HC := hC4
      clear hC4
      have hgl := HC.out.lt
      have d0 : w4.cell? ⟨g, 0, none⟩ = some (.slice A0 sh.length c0) := HC.out.cell 0
      have d1 : w4.cell? ⟨g, 1, none⟩ = some (.slice A1 up.length c1) := HC.out.cell 1
      have d2 : w4.cell? ⟨g, 2, none⟩ = some (.slice AP pa.length cP) := HC.out.cell 2
      have d3 : w4.cell? ⟨g, 3, none⟩ = some (.string (str self)) := HC.out.cell 3
      have d4 : w4.cell? ⟨g, 4, none⟩ = some (.string (str key)) := HC.out.cell 4
      have d5 : w4.cell? ⟨g, 5, none⟩ = some (.int .i64 tries) := HC.out.cell 5
      have hH1 := H1.out.below hB4.out
      have hH2 := H2.out.below hB4.out
      have hed := edge_any w4 _ loc v1 v2 _ _ L key self up pa tries hR4.out hGS.out hL1 (by omega) hH1 hul hH2 hpl
      clear hH1 hH2
      have hol := Lib.hid (hGS.out.good.own_len (Sk.hash 255 key))
      have hOw := Lib.hid (fun X (hX : Below w4.heap.size w4 X) => shield_owners X _ loc v1 v2 L key (hR4.out.below hX) hGS.out hL1 (by omega))
      generalize own (ptsOf L) (Sk.hash 255 key) = O at *
      have hRe := Lib.hid (fun X (A : Option Addr) (c : Nat) (hX : Below w4.heap.size w4 X) (hR : Hid (Rd X 1 (.slice A L.length c) L.length (strs O))) => redge_any X (.slice A L.length c) (.slice A1 up.length c1) AP cP O up pa self tries (by rw [hol.out]; exact hR.out) (by rw [hol.out]; exact hL1) (H1.out.below (Below.next hB4.out hB4.out.size hX)) hul hnil (H2.out.below (Below.next hB4.out hB4.out.size hX)) hpl)
      generalize edS (atN pa self) (cands O up pa self) tries = sS at *
      generalize hcE : edE (atN pa self) (cands O up pa self) tries = cE at *
      have HcE := Lib.hid hcE
      clear hcE
      go_wp2_with fail
      refine hed.mono ?_
      rintro e w5 ⟨rfl, hb5⟩
      have hB5 := Lib.hid hb5
      have hC5 := Lib.hid (HC.out.below hb5)
      have hnm := Lib.hid (fun W => num_any cE W)
      generalize errV cE = ev at *
      clear HC d0 d1 d2 d3 d4 d5 hgl hed hb5
      have HC := hC5
      clear hC5
      have hgl := HC.out.lt
      have d0 : w5.cell? ⟨g, 0, none⟩ = some (.slice A0 sh.length c0) := HC.out.cell 0
      have d1 : w5.cell? ⟨g, 1, none⟩ = some (.slice A1 up.length c1) := HC.out.cell 1
      have d2 : w5.cell? ⟨g, 2, none⟩ = some (.slice AP pa.length cP) := HC.out.cell 2
      have d3 : w5.cell? ⟨g, 3, none⟩ = some (.string (str self)) := HC.out.cell 3
      have d4 : w5.cell? ⟨g, 4, none⟩ = some (.string (str key)) := HC.out.cell 4
      have d5 : w5.cell? ⟨g, 5, none⟩ = some (.int .i64 tries) := HC.out.cell 5
      have hcC := Lib.hid (fun (w' : World) (hb : Below w5.heap.size w5 w') => (show w'.cell? ⟨g, 1, none⟩ = some (.slice A1 up.length c1) ∧ w'.cell? ⟨g, 2, none⟩ = some (.slice AP pa.length cP) ∧ w'.cell? ⟨g, 3, none⟩ = some (.string (str self)) ∧ w'.cell? ⟨g, 4, none⟩ = some (.string (str key)) ∧ w'.cell? ⟨g, 5, none⟩ = some (.int .i64 tries) from ⟨(HC.out.below hb).cell 1, (HC.out.below hb).cell 2, (HC.out.below hb).cell 3, (HC.out.below hb).cell 4, (HC.out.below hb).cell 5⟩))
      have hz5 := hB5.out.size
      go_upto_region 5 with fail
      go_region_held3 (fun w' => w'.cell? ⟨g, 1, none⟩ = some (.slice A1 up.length c1) ∧ w'.cell? ⟨g, 2, none⟩ = some (.slice AP pa.length cP) ∧ w'.cell? ⟨g, 3, none⟩ = some (.string (str self)) ∧ w'.cell? ⟨g, 4, none⟩ = some (.string (str key)) ∧ w'.cell? ⟨g, 5, none⟩ = some (.int .i64 tries)) (first | exact ⟨d1, d2, d3, d4, d5⟩ | exact hcC.out _ (by assumption) | go_keep)
        (first
          | (go_at_call 12; refine (hOw.out _ (by first | exact hB5.out | exact hB5.out.drew)).mono ?_; rintro e w6 ⟨A6, c6, rfl, hR6, hb6⟩; (first | have hb7 := below_of_drew hb6 | have hb7 := hb6))
          | (go_at_call 11; with_reducible refine (hRe.out _ A6 c6 (by first | exact Below.next hB5.out hz5 hb7 | exact (Below.next hB5.out hz5 hb7).drew) hR6).mono ?_; rintro e w8 ⟨rfl, hb8⟩; (first | have hb9 := hb7.trans ((below_of_drew hb8).mono hb7.size) | have hb9 := hb7.trans (hb8.mono hb7.size))))
      all_goals
        rename_i hHeld
        clear hHeld
        have hBf := Lib.hid (Below.next hB4.out hB4.out.size (Below.next hB5.out hz5 hb9))
        have q1 : ((str sS).toList == (str sS).toList) = true := str_eq rfl
        have q2 : (cE == cE) = true := beq_self_eq_true cE
        clear hb6 hb7 hb8 hb9 hR6
        go_wp2_with fail
        refine (hnm.out _).mono ?_
        rintro e w9 ⟨rfl, rfl⟩
        go_wp2_with fail
        go_ret
        exact ⟨rfl, hBf.out⟩
end Go.Proofs.YtkcipebpknapkaaGreatDoor
