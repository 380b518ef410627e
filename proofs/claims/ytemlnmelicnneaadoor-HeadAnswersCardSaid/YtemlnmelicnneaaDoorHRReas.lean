/-
  Layer 5: the document's phrases.
-/
import Derived.Test.YtemlnmelicnneaaDoorHDig
import Derived.Deep.RegionHeld3
import Derived.Deep.QuietTactic
import Derived.BigQuiet
namespace Go.Proofs.YtemlnmelicnneaaDoor
open Go.RowKit Syn Hd

namespace Hd
def lits : List (List UInt8) :=
  [[49, 48, 48, 32, 67, 111, 110, 116, 105, 110, 117, 101],
   [49, 48, 49, 32, 83, 119, 105, 116, 99, 104, 105, 110, 103, 32, 80, 114, 111, 116, 111, 99, 111, 108, 115],
   [50, 48, 48, 32, 79, 75],
   [50, 48, 49, 32, 67, 114, 101, 97, 116, 101, 100],
   [50, 48, 50, 32, 65, 99, 99, 101, 112, 116, 101, 100],
   [50, 48, 51, 32, 78, 111, 110, 45, 65, 117, 116, 104, 111, 114, 105, 116, 97, 116, 105, 118, 101, 32, 73, 110, 102, 111, 114, 109, 97, 116, 105, 111, 110],
   [50, 48, 52, 32, 78, 111, 32, 67, 111, 110, 116, 101, 110, 116],
   [50, 48, 54, 32, 80, 97, 114, 116, 105, 97, 108, 32, 67, 111, 110, 116, 101, 110, 116],
   [51, 48, 48, 32, 77, 117, 108, 116, 105, 112, 108, 101, 32, 67, 104, 111, 105, 99, 101, 115],
   [51, 48, 49, 32, 77, 111, 118, 101, 100, 32, 80, 101, 114, 109, 97, 110, 101, 110, 116, 108, 121],
   [51, 48, 50, 32, 70, 111, 117, 110, 100],
   [51, 48, 51, 32, 83, 101, 101, 32, 79, 116, 104, 101, 114],
   [51, 48, 52, 32, 78, 111, 116, 32, 77, 111, 100, 105, 102, 105, 101, 100],
   [51, 48, 55, 32, 84, 101, 109, 112, 111, 114, 97, 114, 121, 32, 82, 101, 100, 105, 114, 101, 99, 116],
   [51, 48, 56, 32, 80, 101, 114, 109, 97, 110, 101, 110, 116, 32, 82, 101, 100, 105, 114, 101, 99, 116],
   [52, 48, 48, 32, 66, 97, 100, 32, 82, 101, 113, 117, 101, 115, 116],
   [52, 48, 49, 32, 85, 110, 97, 117, 116, 104, 111, 114, 105, 122, 101, 100],
   [52, 48, 51, 32, 70, 111, 114, 98, 105, 100, 100, 101, 110],
   [52, 48, 52, 32, 78, 111, 116, 32, 70, 111, 117, 110, 100],
   [52, 48, 53, 32, 77, 101, 116, 104, 111, 100, 32, 78, 111, 116, 32, 65, 108, 108, 111, 119, 101, 100],
   [52, 48, 56, 32, 82, 101, 113, 117, 101, 115, 116, 32, 84, 105, 109, 101, 111, 117, 116],
   [52, 49, 48, 32, 71, 111, 110, 101],
   [52, 49, 49, 32, 76, 101, 110, 103, 116, 104, 32, 82, 101, 113, 117, 105, 114, 101, 100],
   [52, 49, 50, 32, 80, 114, 101, 99, 111, 110, 100, 105, 116, 105, 111, 110, 32, 70, 97, 105, 108, 101, 100],
   [52, 49, 51, 32, 67, 111, 110, 116, 101, 110, 116, 32, 84, 111, 111, 32, 76, 97, 114, 103, 101],
   [52, 49, 52, 32, 85, 82, 73, 32, 84, 111, 111, 32, 76, 111, 110, 103],
   [52, 49, 54, 32, 82, 97, 110, 103, 101, 32, 78, 111, 116, 32, 83, 97, 116, 105, 115, 102, 105, 97, 98, 108, 101],
   [52, 50, 57, 32, 84, 111, 111, 32, 77, 97, 110, 121, 32, 82, 101, 113, 117, 101, 115, 116, 115],
   [52, 51, 49, 32, 82, 101, 113, 117, 101, 115, 116, 32, 72, 101, 97, 100, 101, 114, 32, 70, 105, 101, 108, 100, 115, 32, 84, 111, 111, 32, 76, 97, 114, 103, 101],
   [53, 48, 48, 32, 73, 110, 116, 101, 114, 110, 97, 108, 32, 83, 101, 114, 118, 101, 114, 32, 69, 114, 114, 111, 114],
   [53, 48, 49, 32, 78, 111, 116, 32, 73, 109, 112, 108, 101, 109, 101, 110, 116, 101, 100],
   [53, 48, 50, 32, 66, 97, 100, 32, 71, 97, 116, 101, 119, 97, 121],
   [53, 48, 51, 32, 83, 101, 114, 118, 105, 99, 101, 32, 85, 110, 97, 118, 97, 105, 108, 97, 98, 108, 101],
   [53, 48, 52, 32, 71, 97, 116, 101, 119, 97, 121, 32, 84, 105, 109, 101, 111, 117, 116]]
theorem lits_items : lits = items := by decide
end Hd
theorem ext_take (x : List UInt8) (k : Nat) : (str x).extract 0 k = str (x.take k) := by
  apply ByteArray.ext
  show ((str x).extract 0 k).data = (x.take k).toArray
  rw [← Array.toList_inj]
  simp [str]
theorem ext_drop (x : List UInt8) (k : Nat) : (str x).extract k (str x).size = str (x.drop k) := by
  apply ByteArray.ext
  show ((str x).extract k (str x).size).data = (x.drop k).toArray
  rw [← Array.toList_inj]
  simp [str]
  exact List.take_of_length_le (by rw [List.length_drop]; exact Nat.le_refl _)
set_option maxRecDepth 100000 in
set_option maxHeartbeats 8000000 in
theorem rreason_any (s : Int) (hs : -9223372036854775808 ≤ s) (hs2 : s ≤ 9223372036854775807) (w : World) : Calls Tryd.prog 16 #[.int .i64 s] w fun e w' => e = .returned (.string (str (rsn s))) ∧ Below w.heap.size w w' := by
  have hB0 := Lib.hid (Blk.new w 9 (strs lits).toArray)
  have hbl := Lib.hid ((Below.refl w.heap.size w).alloc (Nat.le_refl _) (.cells (strs lits).toArray 9))
  by_cases hin : 100 ≤ s ∧ s ≤ 599
  · obtain ⟨n, rfl⟩ : ∃ n : Nat, s = (n : Int) := ⟨s.toNat, by omega⟩
    obtain ⟨i1, i2⟩ := hin
    go_enter Tryd.func16, Tryd.ntmps16
    go_wp2
    go_loopw [4] (fun i wx => ∃ k : Nat, i = .int .i64 (k : Int) ∧ k ≤ 34 ∧ Hid (∀ p ∈ phr.take k, p.1 ≠ n) ∧ Hid (Blk wx w.heap.size 9 (strs lits).toArray) ∧ Hid (Below w.heap.size w wx)) (fun i _ => 34 - (intOf i).toNat)
    case atStart => exact ⟨0, rfl, by omega, Lib.hid (by simp), hB0, hbl⟩
    case round =>
      obtain ⟨k, rfl, hk, hno, hB, hW⟩ := hrel
      by_cases hlt : k < 34
      · have hkp : k < phr.length := by rw [phr_len]; exact hlt
        have d1 : wr.cell? ⟨w.heap.size, k, none⟩ = some (.string (str (dg3 phr[k].1 ++ 32 :: phr[k].2))) := by
          rw [hB.out.cell k, List.getElem?_toArray, lits_items]
          unfold strs
          rw [List.getElem?_map, items_at hkp]
          rfl
        have hpk := phr_lt phr[k] (List.getElem_mem hkp)
        have hrs := fun h : (phr[k].1 : Int) = (n : Int) => rsn_at hkp h (fun i hi => phr_inj k hkp i hi)
        have hnx : phr[k].1 ≠ n → ∀ p ∈ phr.take (k + 1), p.1 ≠ n := fun h p hp => by
          rw [List.take_succ_eq_append_getElem hkp, List.mem_append, List.mem_singleton] at hp
          rcases hp with hp | rfl
          · exact hno.out p hp
          · exact h
        have hinj := fun h : dg3 phr[k].1 = dg3 n => dg3_inj (by omega) (by omega) h
        generalize phr[k] = pk at *
        obtain ⟨c, ph⟩ := pk
        simp only at d1 hpk hrs hnx hinj
        have e1 : (str (dg3 c ++ 32 :: ph)).extract 0 3 = str (dg3 c) := by rw [ext_take]; rfl
        have e2 : (str (dg3 c ++ 32 :: ph)).extract 4 (str (dg3 c ++ 32 :: ph)).size = str ph := by rw [ext_drop]; rfl
        have z2 : (3 : Int) ≤ ((str (dg3 c ++ 32 :: ph)).size : Int) := by rw [str_size, List.length_append, List.length_cons, show (dg3 c).length = 3 from rfl]; omega
        have z3 : (4 : Int) ≤ ((str (dg3 c ++ 32 :: ph)).size : Int) := by rw [str_size, List.length_append, List.length_cons, show (dg3 c).length = 3 from rfl]; omega
        have z4 : 3 ≤ (str (dg3 c ++ 32 :: ph)).size := by omega
        have z1 : 4 ≤ (str (dg3 c ++ 32 :: ph)).size := by omega
        have hD := fun w' => digits_any n (by omega) w'
        have hk1 : ∀ w', Below wr.heap.size wr w' → w'.cell? ⟨w.heap.size, k, none⟩ = some (.string (str (dg3 c ++ 32 :: ph))) := fun w' hb => by rw [hb.cell (p := ⟨w.heap.size, k, none⟩) hB.out.lt]; exact d1
        by_cases hc : c = n
        · have hq := str_eq (a := dg3 c) (b := dg3 n) (by rw [hc])
          have hres := Lib.hid (hrs (by omega))
          clear hnx hinj hrs
          replace hc := Lib.hid hc
          generalize str (dg3 c ++ 32 :: ph) = sk at *
          generalize str (dg3 c) = s3 at *
          generalize str (dg3 n) = s4 at *
          replace hD := Lib.hid hD
          replace hk1 := Lib.hid hk1
          go_wp2_with fail
          go_region_held3 (fun w' => w'.cell? ⟨w.heap.size, k, none⟩ = some (.string sk)) (first | exact d1 | exact d3)
            ((go_at_call 32; refine (hD.out _).mono ?_; rintro e w3 ⟨rfl, hb3⟩; have hB3 := Lib.hid (below_of_drew hb3); have d3 := hk1.out w3 hB3.out; clear hb3))
          go_wp2
          go_ret
          exact ⟨by rw [hres.out]; rfl, Below.next hW.out hW.out.size hB3.out⟩
        · have hq := str_ne (a := dg3 c) (b := dg3 n) (fun h => hc (hinj h))
          have hnn := Lib.hid (hnx hc)
          clear hnx hinj hrs e2
          replace hc := Lib.hid hc
          generalize str (dg3 c ++ 32 :: ph) = sk at *
          generalize str (dg3 c) = s3 at *
          generalize str (dg3 n) = s4 at *
          replace hD := Lib.hid hD
          replace hk1 := Lib.hid hk1
          go_wp2_with fail
          go_region_held3 (fun w' => w'.cell? ⟨w.heap.size, k, none⟩ = some (.string sk)) (first | exact d1 | exact d3)
            ((go_at_call 32; refine (hD.out _).mono ?_; rintro e w3 ⟨rfl, hb3⟩; have hB3 := Lib.hid (below_of_drew hb3); have d3 := hk1.out w3 hB3.out; clear hb3))
          go_wp2_with fail
          go_roundw
          case rel => exact ⟨k + 1, by go_num, by omega, hnn, Lib.hid (hB.out.below hB3.out), Lib.hid (Below.next hW.out hW.out.size hB3.out)⟩
          case measure => simp only [intOf]; omega
      · obtain rfl : k = 34 := by omega
        have hres := Lib.hid (show rsn (n : Int) = [] from lk_none (fun p hp => by have := hno.out p (by rw [← phr_len, List.take_length]; exact hp); omega))
        go_wp2
        go_ret
        exact ⟨by rw [hres.out]; rfl, hW.out⟩
  · have hres := Lib.hid (rsn_none (s := s) (by omega))
    have hpp : s < 100 ∨ 599 < s := by omega
    rcases hpp with hp | hp
    · have q1 : decide (100 ≤ s) = false := decide_eq_false (by omega)
      replace hin := Lib.hid hin
      go_enter Tryd.func16, Tryd.ntmps16
      go_wp2
      go_loopw [4] (fun i wx => ∃ k : Nat, i = .int .i64 (k : Int) ∧ k ≤ 34 ∧ Hid (Below w.heap.size w wx)) (fun i _ => 34 - (intOf i).toNat)
      case atStart => exact ⟨0, rfl, by omega, hbl⟩
      case round =>
        obtain ⟨k, rfl, hk, hW⟩ := hrel
        by_cases hlt : k < 34
        · go_wp2_with fail
          go_quiet (fail)
          go_wp2
          refine ⟨⟨k + 1, by go_num, by omega, Lib.hid (below_drewN hW.out _)⟩, ?_⟩
          simp only [intOf]; omega
        · go_wp2
          go_ret
          exact ⟨by rw [hres.out]; rfl, hW.out⟩
    · have q1 : decide (100 ≤ s) = true := decide_eq_true (by omega)
      have q2 : decide (s ≤ 599) = false := decide_eq_false (by omega)
      replace hin := Lib.hid hin
      go_enter Tryd.func16, Tryd.ntmps16
      go_wp2
      go_loopw [4] (fun i wx => ∃ k : Nat, i = .int .i64 (k : Int) ∧ k ≤ 34 ∧ Hid (Below w.heap.size w wx)) (fun i _ => 34 - (intOf i).toNat)
      case atStart => exact ⟨0, rfl, by omega, hbl⟩
      case round =>
        obtain ⟨k, rfl, hk, hW⟩ := hrel
        by_cases hlt : k < 34
        · go_wp2_with fail
          go_quiet (fail)
          go_wp2
          refine ⟨⟨k + 1, by go_num, by omega, Lib.hid (below_drewN hW.out _)⟩, ?_⟩
          simp only [intOf]; omega
        · go_wp2
          go_ret
          exact ⟨by rw [hres.out]; rfl, hW.out⟩
end Go.Proofs.YtemlnmelicnneaaDoor
