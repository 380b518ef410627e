/-
  The walk of TierTries.
-/
import Derived.Test.YtkcipebpknapkaaGreatDoorTEdgesW
import Derived.Test.YtkcipebpknapkaaGreatDoorTLHas
namespace Go.Proofs.YtkcipebpknapkaaGreatDoor
open Go.Shelf Go.RowKit Go.Lib Go.Sort Rg Syn Ti
set_option maxRecDepth 100000 in
set_option maxHeartbeats 16000000 in
theorem tries_walk (w : World) (vs vu : Value) (AP : Option Addr) (cP : Nat) (sh up pa : List Bytes) (self key : Bytes) (tries : Int) (h0 : Rd w 1 vs sh.length (strs sh)) (h1 : Rd w 1 vu up.length (strs up)) (h2 : Rd w 1 (.slice AP pa.length cP) pa.length (strs pa)) (_ : AP = none → cP = 0) (hS : sumB sh + sumB up + sumB pa ≤ 4611686018427387904) (hs : self.length ≤ 1048576) (hk : key.length ≤ 1048576) :
    Calls Tryz.prog 4 #[.agg (caseC vs vu (.slice AP pa.length cP) self key tries)] w fun e w' => e = .returned (.bool true) ∧ Below w.heap.size w w' := by
  obtain ⟨A0, c0, rfl, -, -, -⟩ := id h0
  obtain ⟨A1, c1, rfl, -, -, -⟩ := id h1
  have hB1 := Lib.hid (show Below w.heap.size w (w.alloc (.cells (caseC (.slice A0 sh.length c0) (.slice A1 up.length c1) (.slice AP pa.length cP) self key tries) 24)) from (Below.refl _ _).alloc (Nat.le_refl _) _)
  have hC := blk_new w 24 (caseC (.slice A0 sh.length c0) (.slice A1 up.length c1) (.slice AP pa.length cP) self key tries)
  have H0 := Lib.hid h0
  have H1 := Lib.hid h1
  have H2 := Lib.hid h2
  have hl3 := Lib.hid (fun X (hX : Below w.heap.size w X) => (show Calls Tryz.prog 7 #[.slice (some ⟨X.heap.size, 0, none⟩) 3 3] (X.alloc (.cells #[.slice A0 sh.length c0, .slice A1 up.length c1, .slice AP pa.length cP] 22)) fun e w' => e = .returned (.bool (decide (2000 < sumB sh + sumB up + sumB pa))) ∧ w' = X.alloc (.cells #[.slice A0 sh.length c0, .slice A1 up.length c1, .slice AP pa.length cP] 22) from by
    have hb : Below w.heap.size w (X.alloc (.cells #[.slice A0 sh.length c0, .slice A1 up.length c1, .slice AP pa.length cP] 22)) := hX.alloc hX.size _
    exact long3_any sh up pa _ _ _ X.heap.size _ (blk_new X 22 _) (h0.below hb) (h1.below hb) (h2.below hb) hS))
  clear h0 h1 h2
  have hss : (str self).size = self.length := str_size self
  have hks : (str key).size = key.length := str_size key
  have wS : IntKind.i64.wrap (((str self).size : Int) + ((str key).size : Int)) = ((str self).size : Int) + ((str key).size : Int) := IntWalk.i64_in _ (by omega)
  have hlt0 := hC.lt
  have HC := Lib.hid hC
  clear hC
  by_cases hS2 : 2000 < sumB sh + sumB up + sumB pa
  · rw [decide_eq_true hS2] at hl3
    clear hS2
    go_enter Tryz.func4, Tryz.ntmps4
    go_upto_region 1 with fail
    generalize w.alloc (.cells (caseC (.slice A0 sh.length c0) (.slice A1 up.length c1) (.slice AP pa.length cP) self key tries) 24) = wB at *
    generalize w.heap.size = g at HC hlt0 ⊢
    have d0 : wB.cell? ⟨g, 0, none⟩ = some (.slice A0 sh.length c0) := HC.out.cell 0
    have d1 : wB.cell? ⟨g, 1, none⟩ = some (.slice A1 up.length c1) := HC.out.cell 1
    have d2 : wB.cell? ⟨g, 2, none⟩ = some (.slice AP pa.length cP) := HC.out.cell 2
    go_wp2_with fail
    refine (hl3.out wB hB1.out).mono ?_
    rintro e w1 ⟨rfl, rfl⟩
    have hB2 := Lib.hid (show Below w.heap.size w (wB.alloc (.cells #[.slice A0 sh.length c0, .slice A1 up.length c1, .slice AP pa.length cP] 22)) from hB1.out.alloc hB1.out.size _) 
    have hC2 := Lib.hid (HC.out.alloc (.cells #[.slice A0 sh.length c0, .slice A1 up.length c1, .slice AP pa.length cP] 22))
    clear HC d0 d1 d2
    have HC := hC2
    generalize wB.alloc (.cells #[.slice A0 sh.length c0, .slice A1 up.length c1, .slice AP pa.length cP] 22) = w2 at *
    clear hC2
    have hgl := HC.out.lt
    have d0 : w2.cell? ⟨g, 0, none⟩ = some (.slice A0 sh.length c0) := HC.out.cell 0
    have d1 : w2.cell? ⟨g, 1, none⟩ = some (.slice A1 up.length c1) := HC.out.cell 1
    have d2 : w2.cell? ⟨g, 2, none⟩ = some (.slice AP pa.length cP) := HC.out.cell 2
    go_wp2_with fail
    refine (hl3.out w2 hB2.out).mono ?_
    rintro e w3 ⟨rfl, rfl⟩
    have hB3 := Lib.hid (show Below w.heap.size w (w2.alloc (.cells #[.slice A0 sh.length c0, .slice A1 up.length c1, .slice AP pa.length cP] 22)) from hB2.out.alloc hB2.out.size _)
    go_wp2_with fail
    go_ret
    exact ⟨rfl, hB3.out⟩
  · rw [decide_eq_false hS2] at hl3
    by_cases h500 : 500 < self.length + key.length
    · have g5 : (500 : Int) < ((str self).size : Int) + ((str key).size : Int) := by omega
      clear h500
      go_enter Tryz.func4, Tryz.ntmps4
      go_upto_region 1 with fail
      generalize w.alloc (.cells (caseC (.slice A0 sh.length c0) (.slice A1 up.length c1) (.slice AP pa.length cP) self key tries) 24) = wB at *
      generalize w.heap.size = g at HC hlt0 ⊢
      have d0 : wB.cell? ⟨g, 0, none⟩ = some (.slice A0 sh.length c0) := HC.out.cell 0
      have d1 : wB.cell? ⟨g, 1, none⟩ = some (.slice A1 up.length c1) := HC.out.cell 1
      have d2 : wB.cell? ⟨g, 2, none⟩ = some (.slice AP pa.length cP) := HC.out.cell 2
      have d3 : wB.cell? ⟨g, 3, none⟩ = some (.string (str self)) := HC.out.cell 3
      have d4 : wB.cell? ⟨g, 4, none⟩ = some (.string (str key)) := HC.out.cell 4
      go_wp2_with fail
      refine (hl3.out wB hB1.out).mono ?_
      rintro e w1 ⟨rfl, rfl⟩
      have hB2 := Lib.hid (show Below w.heap.size w (wB.alloc (.cells #[.slice A0 sh.length c0, .slice A1 up.length c1, .slice AP pa.length cP] 22)) from hB1.out.alloc hB1.out.size _) 
      have hC2 := Lib.hid (HC.out.alloc (.cells #[.slice A0 sh.length c0, .slice A1 up.length c1, .slice AP pa.length cP] 22))
      clear HC d0 d1 d2 d3 d4
      have HC := hC2
      generalize wB.alloc (.cells #[.slice A0 sh.length c0, .slice A1 up.length c1, .slice AP pa.length cP] 22) = w2 at *
      clear hC2
      have hgl := HC.out.lt
      have d0 : w2.cell? ⟨g, 0, none⟩ = some (.slice A0 sh.length c0) := HC.out.cell 0
      have d1 : w2.cell? ⟨g, 1, none⟩ = some (.slice A1 up.length c1) := HC.out.cell 1
      have d2 : w2.cell? ⟨g, 2, none⟩ = some (.slice AP pa.length cP) := HC.out.cell 2
      have d3 : w2.cell? ⟨g, 3, none⟩ = some (.string (str self)) := HC.out.cell 3
      have d4 : w2.cell? ⟨g, 4, none⟩ = some (.string (str key)) := HC.out.cell 4
      go_wp2_with fail
      refine (hl3.out w2 hB2.out).mono ?_
      rintro e w3 ⟨rfl, rfl⟩
      have hB3 := Lib.hid (show Below w.heap.size w (w2.alloc (.cells #[.slice A0 sh.length c0, .slice A1 up.length c1, .slice AP pa.length cP] 22)) from hB2.out.alloc hB2.out.size _)
      have hC3 := Lib.hid (HC.out.alloc (.cells #[.slice A0 sh.length c0, .slice A1 up.length c1, .slice AP pa.length cP] 22))
      clear HC d0 d1 d2 d3 d4
      have HC := hC3
      generalize w2.alloc (.cells #[.slice A0 sh.length c0, .slice A1 up.length c1, .slice AP pa.length cP] 22) = w3 at *
      clear hC3 hgl
      have hgl := HC.out.lt
      have d0 : w3.cell? ⟨g, 0, none⟩ = some (.slice A0 sh.length c0) := HC.out.cell 0
      have d1 : w3.cell? ⟨g, 1, none⟩ = some (.slice A1 up.length c1) := HC.out.cell 1
      have d2 : w3.cell? ⟨g, 2, none⟩ = some (.slice AP pa.length cP) := HC.out.cell 2
      have d3 : w3.cell? ⟨g, 3, none⟩ = some (.string (str self)) := HC.out.cell 3
      have d4 : w3.cell? ⟨g, 4, none⟩ = some (.string (str key)) := HC.out.cell 4
      go_wp2_with fail
      go_ret
      exact ⟨rfl, hB3.out⟩
    · have g5 : ¬ (500 : Int) < ((str self).size : Int) + ((str key).size : Int) := by omega
      clear h500
      have hS3 : sumB sh + sumB up + sumB pa ≤ 2000 := by omega
      clear hS2 hS
      go_enter Tryz.func4, Tryz.ntmps4
      go_upto_region 1 with fail
      generalize w.alloc (.cells (caseC (.slice A0 sh.length c0) (.slice A1 up.length c1) (.slice AP pa.length cP) self key tries) 24) = wB at *
      generalize w.heap.size = g at HC hlt0 ⊢
      have d0 : wB.cell? ⟨g, 0, none⟩ = some (.slice A0 sh.length c0) := HC.out.cell 0
      have d1 : wB.cell? ⟨g, 1, none⟩ = some (.slice A1 up.length c1) := HC.out.cell 1
      have d2 : wB.cell? ⟨g, 2, none⟩ = some (.slice AP pa.length cP) := HC.out.cell 2
      have d3 : wB.cell? ⟨g, 3, none⟩ = some (.string (str self)) := HC.out.cell 3
      have d4 : wB.cell? ⟨g, 4, none⟩ = some (.string (str key)) := HC.out.cell 4
      go_wp2_with fail
      refine (hl3.out wB hB1.out).mono ?_
      rintro e w1 ⟨rfl, rfl⟩
      have hB2 := Lib.hid (show Below w.heap.size w (wB.alloc (.cells #[.slice A0 sh.length c0, .slice A1 up.length c1, .slice AP pa.length cP] 22)) from hB1.out.alloc hB1.out.size _) 
      have hC2 := Lib.hid (HC.out.alloc (.cells #[.slice A0 sh.length c0, .slice A1 up.length c1, .slice AP pa.length cP] 22))
      clear HC d0 d1 d2 d3 d4
      have HC := hC2
      generalize wB.alloc (.cells #[.slice A0 sh.length c0, .slice A1 up.length c1, .slice AP pa.length cP] 22) = w2 at *
      clear hC2
      have hgl := HC.out.lt
      have d0 : w2.cell? ⟨g, 0, none⟩ = some (.slice A0 sh.length c0) := HC.out.cell 0
      have d1 : w2.cell? ⟨g, 1, none⟩ = some (.slice A1 up.length c1) := HC.out.cell 1
      have d2 : w2.cell? ⟨g, 2, none⟩ = some (.slice AP pa.length cP) := HC.out.cell 2
      have d3 : w2.cell? ⟨g, 3, none⟩ = some (.string (str self)) := HC.out.cell 3
      have d4 : w2.cell? ⟨g, 4, none⟩ = some (.string (str key)) := HC.out.cell 4
      go_wp2_with fail
      refine (tawake_any _).mono ?_
      rintro e w3 ⟨rfl, hb3⟩
      have hC3 := Lib.hid (HC.out.below hb3)
      have hB3 := Lib.hid (Below.next hB2.out hB2.out.size hb3)
      clear HC d0 d1 d2 d3 d4 hgl hb3 hB2 hB1 hl3
      have HC := hC3
      clear hC3
      have hgl := HC.out.lt
      have d0 : w3.cell? ⟨g, 0, none⟩ = some (.slice A0 sh.length c0) := HC.out.cell 0
      have d1 : w3.cell? ⟨g, 1, none⟩ = some (.slice A1 up.length c1) := HC.out.cell 1
      have d2 : w3.cell? ⟨g, 2, none⟩ = some (.slice AP pa.length cP) := HC.out.cell 2
      have d3 : w3.cell? ⟨g, 3, none⟩ = some (.string (str self)) := HC.out.cell 3
      have d4 : w3.cell? ⟨g, 4, none⟩ = some (.string (str key)) := HC.out.cell 4
      have d5 : w3.cell? ⟨g, 5, none⟩ = some (.int .i64 tries) := HC.out.cell 5
      have hsl0 : sumB sh ≤ 2000 := by omega
      have hul : up.length ≤ 100000 := by have := sumB_len up; omega
      have hpl : pa.length ≤ 100000 := by have := sumB_len pa; omega
      have hri := rings_any w3 _ sh (H0.out.below hB3.out) hsl0
      have hGS := Lib.hid (mkS_good sh)
      have hLn := mkS_len sh
      have hL1 : (mkS sh).length ≤ 1000 := by omega
      clear hLn
      generalize mkS sh = L at *
      go_wp2_with fail
      refine hri.mono ?_
      rintro e w4 ⟨loc, v1, v2, rfl, hr4, hb4⟩
      have hB4 := Lib.hid (Below.next hB3.out hB3.out.size hb4)
      have hC4 := Lib.hid (HC.out.below hb4)
      have hR4 := Lib.hid hr4
      clear HC d0 d1 d2 d3 d4 d5 hgl hri hb4 hr4
      have HC := hC4
      clear hC4
      have hEd := Lib.hid (fun X (hX : Below w4.heap.size w4 X) (t : Int) => edge_any X _ loc v1 v2 _ _ L key self up pa t (hR4.out.below hX) hGS.out hL1 (by omega) (H1.out.below (Below.next hB4.out hB4.out.size hX)) hul (H2.out.below (Below.next hB4.out hB4.out.size hX)) hpl)
      have hon := own_nodup (ptsOf L) (Sk.hash 255 key)
      have hoo : ∀ x ∈ own (ptsOf L) (Sk.hash 255 key), x ≠ org ∧ x ≠ [] := fun x hx => by
        obtain ⟨y, hy, e⟩ := List.mem_map.1 (hGS.out.good.own_mem.1 hx)
        have := hGS.out.nm y hy
        rw [← e]
        exact ⟨this.2.2, fun h => by rw [h] at this; simp at this⟩
      have hHu := Lib.hid (fun X (hX : Below w4.heap.size w4 X) => H1.out.below (Below.next hB4.out hB4.out.size hX))
      have hHp := Lib.hid (fun X (hX : Below w4.heap.size w4 X) => H2.out.below (Below.next hB4.out hB4.out.size hX))
      have hCx := Lib.hid (fun X (hX : Below w4.heap.size w4 X) => HC.out.below hX)
      have hFin := Lib.hid (fun X (hX : Below w4.heap.size w4 X) => (show Below w.heap.size w X from Below.next hB4.out hB4.out.size hX))
      have hol := hGS.out.good.own_len (Sk.hash 255 key)
      have hcn := cands_nodup (up := up) (path := pa) (self := self) hon
      have hcm := fun x => cands_mem (O := own (ptsOf L) (Sk.hash 255 key)) (up := up) (path := pa) (self := self) (x := x)
      have hcl := cands_len (own (ptsOf L) (Sk.hash 255 key)) up pa self
      generalize own (ptsOf L) (Sk.hash 255 key) = O at *
      have hc1 : ∀ x ∈ cands O up pa self, x ≠ org ∧ x ∈ up ∧ x ∉ pa ∧ x ≠ self := fun x hx => by
        obtain ⟨h1, h2, h3, h4⟩ := (hcm x).1 hx
        exact ⟨(hoo x h1).1, h2, h3, h4⟩
      have hcl2 : (cands O up pa self).length ≤ 1000 := by omega
      clear hcm hcl hol hon hoo hR4 hL1 hGS
      generalize cands O up pa self = c at *
      have hval := atN_val pa self
      by_cases hbad : atN pa self = 0
      · obtain ⟨hb1, hb2, hb3, hb4⟩ := atN_zero hbad
        rw [hbad] at hEd
        clear hval hbad
        have hao : org ∉ c := fun h => (hc1 _ h).1 rfl
        have hAn := all_nodup hcn hao
        obtain ⟨A, hA⟩ : ∃ A, c ++ [org] = A := ⟨_, rfl⟩
        have hAl : A.length = c.length + 1 := by rw [← hA, List.length_append, List.length_singleton]
        have hAt : ∀ i, (hi : i < A.length) → edS 0 c (i : Int) = A[i] ∧ edE 0 c (i : Int) = 0 := fun i hi => by subst hA; exact edS_at (by omega)
        have hAc : ∀ i, (hi : i < A.length) → (i < c.length ∧ A[i] ∈ c) ∨ (i = c.length ∧ A[i] = org) := fun i hi => by
          subst hA
          rcases Nat.lt_or_ge i c.length with h | h
          · exact Or.inl ⟨h, by rw [List.getElem_append_left h]; exact List.getElem_mem h⟩
          · obtain rfl : i = c.length := by omega
            exact Or.inr ⟨rfl, all_last c⟩
        rw [hA] at hAn
        clear hA
        have HAt := Lib.hid hAt
        have HAc := Lib.hid hAc
        have HAn := Lib.hid hAn
        have HAl := Lib.hid hAl
        have Hc1 := Lib.hid hc1
        clear hAt hAc hAn hAl hc1 hcn hao
        have HN0 := Lib.hid (own_nil w4 w4.heap.size 9 1)
        go_wp2_with fail
        go_loopw [4, 5] (fun o i wr => ∃ k : Nat, i = .int .i64 (k : Int) ∧ k ≤ 1000 ∧ k ≤ c.length + 1 ∧ Hid (Own wr w4.heap.size 9 1 o k (strs (A.take k))) ∧ Hid (Below w4.heap.size w4 wr)) (fun _ i _ => 1000 - (intOf i).toNat)
        case atStart => exact ⟨0, rfl, by omega, by omega, HN0.out, Below.refl _ _⟩
        case round =>
          clear HN0
          obtain ⟨k, rfl, hk1, hk2, hO5, hB5⟩ := hrel
          obtain ⟨w5, rfl⟩ : ∃ w5, w5 = wr := ⟨_, rfl⟩
          have hC5 := hCx.out _ hB5.out
          have hgl5 := hC5.lt
          have d1 : w5.cell? ⟨g, 1, none⟩ = some (.slice A1 up.length c1) := hC5.cell 1
          have d2 : w5.cell? ⟨g, 2, none⟩ = some (.slice AP pa.length cP) := hC5.cell 2
          have d3 : w5.cell? ⟨g, 3, none⟩ = some (.string (str self)) := hC5.cell 3
          have d4 : w5.cell? ⟨g, 4, none⟩ = some (.string (str key)) := hC5.cell 4
          clear hC5
          obtain ⟨A8, c8, rfl, hc8, -, -⟩ := Rd.own hO5.out
          by_cases hlt : k < 1000
          · have k1 : (k : Int) < 1000 := by omega
            have hE := hEd.out _ hB5.out (k : Int)
            by_cases hkA : k < A.length
            · obtain ⟨he1, he2⟩ := HAt.out k hkA
              rw [he1, he2] at hE
              have hE2 : Calls Tryz.prog 10 #[.string (str self), .pointer (some ⟨loc, 0, none⟩), .slice A1 up.length c1, .string (str key), .slice AP pa.length cP, .int .i64 (k : Int)] w5 fun e w' => e = .returned (.tuple #[.string (str A[k]), .nilIface]) ∧ Below w5.heap.size w5 w' := hE
              have hE := hE2
              clear hE2 he1 he2
              have hF1 := not_before HAn.out hkA
              have hAk := Lib.hid (show (A.take k).length = k by rw [List.length_take]; omega)
              have hAs := Lib.hid (List.take_succ_eq_append_getElem hkA)
              have hF := HAc.out k hkA
              have hF2 : A[k] ∉ pa := by rcases hF with ⟨-, h⟩ | ⟨-, h⟩; exact (Hc1.out _ h).2.2.1; rw [h]; exact hb3
              have hF3 : A[k] ≠ self := by rcases hF with ⟨-, h⟩ | ⟨-, h⟩; exact (Hc1.out _ h).2.2.2; rw [h]; exact fun e => hb2 e.symm
              have hF4 : (A[k] ≠ org ∧ A[k] ∈ up) ∨ A[k] = org := by rcases hF with ⟨-, h⟩ | ⟨-, h⟩; exact Or.inl ⟨(Hc1.out _ h).1, (Hc1.out _ h).2.1⟩; exact Or.inr h
              have hp5 : ∀ h : 0 < k, ∃ y, (A.take k)[k - 1]? = some y ∧ y ≠ org := fun h => by
                have h1 : k - 1 < A.length := by omega
                refine ⟨A[k - 1], ?_, ?_⟩
                · rw [List.getElem?_take_of_lt (by omega), List.getElem?_eq_getElem h1]
                · rcases HAc.out (k - 1) h1 with ⟨-, h⟩ | ⟨h, -⟩
                  · exact (Hc1.out _ h).1
                  · have := HAl.out; omega
              have hkl : k ≤ 1001 := by omega
              generalize A[k] = x at *
              rcases Nat.eq_zero_or_pos k with h5 | h5
              · have hseen : True := trivial
                have hy5 : True := trivial
                clear hp5
                rcases hF4 with h4 | h4
                · have g8 : ((k : Int) == 0) = true := by rw [beq_iff_eq]; omega
                  have g9 : ¬ (0 : Int) < (k : Int) := by omega
                  have H5 := Lib.hid h5
                  clear h5
                  have q1 : ((str x).toList == [111, 114, 105, 103, 105, 110]) = false := by rw [str_toList, beq_eq_false_iff_ne]; exact h4.1
                  have q2 : ((str x).toList == (str self).toList) = false := str_ne hF3
                  clear hseen hy5
                  go_wp2_with fail
                  refine hE.mono ?_
                  rintro e w6 ⟨rfl, hb6⟩
                  have hB6 := Lib.hid (Below.next hB5.out hB5.out.size hb6)
                  have hC6 := hCx.out _ hB6.out
                  have hgl := hC6.lt
                  have d1 : w6.cell? ⟨g, 1, none⟩ = some (.slice A1 up.length c1) := hC6.cell 1
                  have d2 : w6.cell? ⟨g, 2, none⟩ = some (.slice AP pa.length cP) := hC6.cell 2
                  have d3 : w6.cell? ⟨g, 3, none⟩ = some (.string (str self)) := hC6.cell 3
                  have hSe := Lib.hid (own_below hO5.out hb6)
                  have hs6 := lhas_any (A.take k) x _ c8 w6 (by rw [hAk.out]; exact Rd.own hSe.out) (by rw [hAk.out]; omega)
                  rw [decide_eq_false hF1, hAk.out] at hs6
                  have hp6 := lhas_any pa x AP cP w6 (hHp.out _ hB6.out) (by omega)
                  rw [decide_eq_false hF2] at hp6
                  have hu6 := lhas_any up x A1 c1 w6 (hHu.out _ hB6.out) (by omega)
                  rw [decide_eq_true h4.2] at hu6
                  have hz6 := hB6.out.size
                  clear hE hb6 hC6 h4 hF1 hF2 hF3
                  go_wp2_with fail
                  refine hs6.mono ?_
                  rintro e w' ⟨rfl, rfl⟩
                  go_wp2_with fail
                  refine hp6.mono ?_
                  rintro e w' ⟨rfl, rfl⟩
                  go_wp2_with fail
                  refine hu6.mono ?_
                  rintro e w' ⟨rfl, rfl⟩
                  go_wp2_with (at_builtin; refine push_str _ _ rfl rfl rfl hSe.out rfl rfl (by omega) hz6 ?_; intro v9 w9 ho9 hb9; replace ho9 := Lib.hid ho9; have hB9 := Lib.hid (hB6.out.trans hb9); clear hb9)
                  go_roundw
                  case rel => exact ⟨k + 1, by go_num, by omega, by omega, Lib.hid (by rw [hAs.out, strs_snoc]; exact ho9.out), hB9.out⟩
                  case measure => simp [intOf]; omega
                · have g8 : ((k : Int) == 0) = true := by rw [beq_iff_eq]; omega
                  have g9 : ¬ (0 : Int) < (k : Int) := by omega
                  have H5 := Lib.hid h5
                  clear h5
                  have q1 : ((str x).toList == [111, 114, 105, 103, 105, 110]) = true := by rw [str_toList, h4]; rfl
                  have q2 : ((str x).toList == (str self).toList) = false := str_ne hF3
                  clear hseen hy5
                  go_wp2_with fail
                  refine hE.mono ?_
                  rintro e w6 ⟨rfl, hb6⟩
                  have hB6 := Lib.hid (Below.next hB5.out hB5.out.size hb6)
                  have hC6 := hCx.out _ hB6.out
                  have hgl := hC6.lt
                  have d1 : w6.cell? ⟨g, 1, none⟩ = some (.slice A1 up.length c1) := hC6.cell 1
                  have d2 : w6.cell? ⟨g, 2, none⟩ = some (.slice AP pa.length cP) := hC6.cell 2
                  have d3 : w6.cell? ⟨g, 3, none⟩ = some (.string (str self)) := hC6.cell 3
                  have hSe := Lib.hid (own_below hO5.out hb6)
                  have hs6 := lhas_any (A.take k) x _ c8 w6 (by rw [hAk.out]; exact Rd.own hSe.out) (by rw [hAk.out]; omega)
                  rw [decide_eq_false hF1, hAk.out] at hs6
                  have hp6 := lhas_any pa x AP cP w6 (hHp.out _ hB6.out) (by omega)
                  rw [decide_eq_false hF2] at hp6
                  have hz6 := hB6.out.size
                  clear hE hb6 hC6 h4 hF1 hF2 hF3
                  go_wp2_with fail
                  refine hs6.mono ?_
                  rintro e w' ⟨rfl, rfl⟩
                  go_wp2_with fail
                  refine hp6.mono ?_
                  rintro e w' ⟨rfl, rfl⟩
                  go_wp2_with (at_builtin; refine push_str _ _ rfl rfl rfl hSe.out rfl rfl (by omega) hz6 ?_; intro v9 w9 ho9 hb9; replace ho9 := Lib.hid ho9; have hB9 := Lib.hid (hB6.out.trans hb9); clear hb9)
                  go_roundw
                  case rel => exact ⟨k + 1, by go_num, by omega, by omega, Lib.hid (by rw [hAs.out, strs_snoc]; exact ho9.out), hB9.out⟩
                  case measure => simp [intOf]; omega
              · obtain ⟨y, hy, hyo⟩ := hp5 h5
                obtain ⟨g8', c8', he⟩ := own_some hO5.out h5
                cases he
                have hg8 : g8' < w5.heap.size := hO5.out.lt rfl
                have hseen : 0 < k → w5.cell? ⟨g8', k - 1, none⟩ = some (.string (str y)) := fun _ => own_at hO5.out (by unfold strs; rw [List.getElem?_map, hy]; rfl)
                have hy5 : 0 < k → ((str y).toList == [111, 114, 105, 103, 105, 110]) = false := fun _ => by rw [str_toList, beq_eq_false_iff_ne]; exact hyo
                clear hp5 hy hyo
                rcases hF4 with h4 | h4
                · have g8 : ((k : Int) == 0) = false := beq_eq_false_iff_ne.2 (by omega)
                  have g9 : (0 : Int) < (k : Int) := by omega
                  have t0 := hseen h5
                  have g10 := hy5 h5
                  have g11 : IntKind.i64.wrap ((k : Int) - 1) = ((k - 1 : Nat) : Int) := (IntWalk.i64_in _ (by omega)).trans (by omega)
                  have g12 : (0 : Int) ≤ ((k - 1 : Nat) : Int) := by omega
                  have g13 : ((k - 1 : Nat) : Int) < (k : Int) := by omega
                  generalize hk1z : k - 1 = kz at *
                  clear hk1z
                  have q1 : ((str x).toList == [111, 114, 105, 103, 105, 110]) = false := by rw [str_toList, beq_eq_false_iff_ne]; exact h4.1
                  have q2 : ((str x).toList == (str self).toList) = false := str_ne hF3
                  clear hseen hy5
                  go_wp2_with fail
                  refine hE.mono ?_
                  rintro e w6 ⟨rfl, hb6⟩
                  have hB6 := Lib.hid (Below.next hB5.out hB5.out.size hb6)
                  have hC6 := hCx.out _ hB6.out
                  have hgl := hC6.lt
                  have d1 : w6.cell? ⟨g, 1, none⟩ = some (.slice A1 up.length c1) := hC6.cell 1
                  have d2 : w6.cell? ⟨g, 2, none⟩ = some (.slice AP pa.length cP) := hC6.cell 2
                  have d3 : w6.cell? ⟨g, 3, none⟩ = some (.string (str self)) := hC6.cell 3
                  have hSe := Lib.hid (own_below hO5.out hb6)
                  have hs6 := lhas_any (A.take k) x _ c8 w6 (by rw [hAk.out]; exact Rd.own hSe.out) (by rw [hAk.out]; omega)
                  rw [decide_eq_false hF1, hAk.out] at hs6
                  have hp6 := lhas_any pa x AP cP w6 (hHp.out _ hB6.out) (by omega)
                  rw [decide_eq_false hF2] at hp6
                  have hu6 := lhas_any up x A1 c1 w6 (hHu.out _ hB6.out) (by omega)
                  rw [decide_eq_true h4.2] at hu6
                  have t1 : w6.cell? ⟨g8', kz, none⟩ = some (.string (str y)) := (hb6.cell (p := ⟨g8', kz, none⟩) hg8).trans t0
                  clear t0
                  have hz6 := hB6.out.size
                  clear hE hb6 hC6 h4 hF1 hF2 hF3
                  go_wp2_with fail
                  refine hs6.mono ?_
                  rintro e w' ⟨rfl, rfl⟩
                  go_wp2_with fail
                  refine hp6.mono ?_
                  rintro e w' ⟨rfl, rfl⟩
                  go_wp2_with fail
                  refine hu6.mono ?_
                  rintro e w' ⟨rfl, rfl⟩
                  go_wp2_with (at_builtin; refine push_str _ _ rfl rfl rfl hSe.out rfl rfl (by omega) hz6 ?_; intro v9 w9 ho9 hb9; replace ho9 := Lib.hid ho9; have hB9 := Lib.hid (hB6.out.trans hb9); clear hb9)
                  go_roundw
                  case rel => exact ⟨k + 1, by go_num, by omega, by omega, Lib.hid (by rw [hAs.out, strs_snoc]; exact ho9.out), hB9.out⟩
                  case measure => simp [intOf]; omega
                · have g8 : ((k : Int) == 0) = false := beq_eq_false_iff_ne.2 (by omega)
                  have g9 : (0 : Int) < (k : Int) := by omega
                  have t0 := hseen h5
                  have g10 := hy5 h5
                  have g11 : IntKind.i64.wrap ((k : Int) - 1) = ((k - 1 : Nat) : Int) := (IntWalk.i64_in _ (by omega)).trans (by omega)
                  have g12 : (0 : Int) ≤ ((k - 1 : Nat) : Int) := by omega
                  have g13 : ((k - 1 : Nat) : Int) < (k : Int) := by omega
                  generalize hk1z : k - 1 = kz at *
                  clear hk1z
                  have q1 : ((str x).toList == [111, 114, 105, 103, 105, 110]) = true := by rw [str_toList, h4]; rfl
                  have q2 : ((str x).toList == (str self).toList) = false := str_ne hF3
                  clear hseen hy5
                  go_wp2_with fail
                  refine hE.mono ?_
                  rintro e w6 ⟨rfl, hb6⟩
                  have hB6 := Lib.hid (Below.next hB5.out hB5.out.size hb6)
                  have hC6 := hCx.out _ hB6.out
                  have hgl := hC6.lt
                  have d1 : w6.cell? ⟨g, 1, none⟩ = some (.slice A1 up.length c1) := hC6.cell 1
                  have d2 : w6.cell? ⟨g, 2, none⟩ = some (.slice AP pa.length cP) := hC6.cell 2
                  have d3 : w6.cell? ⟨g, 3, none⟩ = some (.string (str self)) := hC6.cell 3
                  have hSe := Lib.hid (own_below hO5.out hb6)
                  have hs6 := lhas_any (A.take k) x _ c8 w6 (by rw [hAk.out]; exact Rd.own hSe.out) (by rw [hAk.out]; omega)
                  rw [decide_eq_false hF1, hAk.out] at hs6
                  have hp6 := lhas_any pa x AP cP w6 (hHp.out _ hB6.out) (by omega)
                  rw [decide_eq_false hF2] at hp6
                  have t1 : w6.cell? ⟨g8', kz, none⟩ = some (.string (str y)) := (hb6.cell (p := ⟨g8', kz, none⟩) hg8).trans t0
                  clear t0
                  have hz6 := hB6.out.size
                  clear hE hb6 hC6 h4 hF1 hF2 hF3
                  go_wp2_with fail
                  refine hs6.mono ?_
                  rintro e w' ⟨rfl, rfl⟩
                  go_wp2_with fail
                  refine hp6.mono ?_
                  rintro e w' ⟨rfl, rfl⟩
                  go_wp2_with (at_builtin; refine push_str _ _ rfl rfl rfl hSe.out rfl rfl (by omega) hz6 ?_; intro v9 w9 ho9 hb9; replace ho9 := Lib.hid ho9; have hB9 := Lib.hid (hB6.out.trans hb9); clear hb9)
                  go_roundw
                  case rel => exact ⟨k + 1, by go_num, by omega, by omega, Lib.hid (by rw [hAs.out, strs_snoc]; exact ho9.out), hB9.out⟩
                  case measure => simp [intOf]; omega
            · obtain ⟨he1, he2⟩ := edE_past (c := c) (i := k) (by have := HAl.out; omega)
              rw [he1, he2] at hE
              have hke : k = c.length + 1 := by have := HAl.out; omega
              have hkp : 0 < k := by omega
              obtain ⟨g8', c8', he⟩ := own_some hO5.out hkp
              cases he
              have hlast : (A.take k)[k - 1]? = some org := by
                have h1 : k - 1 < A.length := by have := HAl.out; omega
                rw [List.getElem?_take_of_lt (by omega), List.getElem?_eq_getElem h1]
                rcases HAc.out (k - 1) h1 with ⟨h, -⟩ | ⟨-, h⟩
                · omega
                · rw [h]
              have t0 : w5.cell? ⟨g8', k - 1, none⟩ = some (.string (str org)) := own_at hO5.out (by unfold strs; rw [List.getElem?_map, hlast]; rfl)
              have hg8 : g8' < w5.heap.size := hO5.out.lt rfl
              have g8 : ((k : Int) == 0) = false := beq_eq_false_iff_ne.2 (by omega)
              have g9 : (0 : Int) < (k : Int) := by omega
              have g11 : IntKind.i64.wrap ((k : Int) - 1) = ((k - 1 : Nat) : Int) := (IntWalk.i64_in _ (by omega)).trans (by omega)
              have g12 : (0 : Int) ≤ ((k - 1 : Nat) : Int) := by omega
              have g13 : ((k - 1 : Nat) : Int) < (k : Int) := by omega
              have q0 : ((str []).toList == ([] : List UInt8)) = true := by rw [str_toList]; rfl
              have q1 : ((str org).toList == [111, 114, 105, 103, 105, 110]) = true := by rw [str_toList]; rfl
              have his := Lib.hid (fun W => (show Calls Tryz.prog 14 #[errV 3, .int .i64 3] W fun e w' => e = .returned (.bool true) ∧ w' = W from is_any 3 3 W))
              have hev : errV 3 = .iface 39 (.int .i64 3) := rfl
              rw [hev] at hE his
              generalize hk1' : k - 1 = kz at *
              clear hlast hk1' hke he1 he2
              go_wp2_with fail
              refine hE.mono ?_
              rintro e w6 ⟨rfl, hb6⟩
              have hB6 := Lib.hid (Below.next hB5.out hB5.out.size hb6)
              have t1 : w6.cell? ⟨g8', kz, none⟩ = some (.string (str org)) := (hb6.cell (p := ⟨g8', kz, none⟩) hg8).trans t0
              clear t0 hb6
              go_wp2_with fail
              refine (his.out _).mono ?_
              rintro e w7 ⟨rfl, rfl⟩
              go_wp2_with fail
              go_ret
              exact ⟨rfl, hFin.out _ hB6.out⟩
          · have k1 : ¬ (k : Int) < 1000 := by omega
            go_wp2_with fail
            go_ret
            exact ⟨rfl, hFin.out _ hB5.out⟩
      · have h3 : ¬ atN pa self = 3 := by rcases hval with h | h | h <;> omega
        have hEb := Lib.hid (fun X hX => (show Calls Tryz.prog 10 #[.string (str self), .pointer (some ⟨loc, 0, none⟩), .slice A1 up.length c1, .string (str key), .slice AP pa.length cP, .int .i64 0] X fun e w' => e = .returned (.tuple #[.string (str []), errV (atN pa self)]) ∧ Below X.heap.size X w' from by
          have h := hEd.out X hX 0
          rw [(edE_bad hbad c 0).1, (edE_bad hbad c 0).2] at h
          exact h))
        have his := Lib.hid (fun W => (show Calls Tryz.prog 14 #[errV (atN pa self), .int .i64 3] W fun e w' => e = .returned (.bool false) ∧ w' = W from by
          have h := is_any (atN pa self) 3 W
          rw [decide_eq_false h3] at h
          exact h))
        obtain ⟨h0, hev⟩ := (errV_cases (atN pa self)).resolve_left (fun h => hbad h.1)
        rw [hev] at hEb his
        generalize atN pa self = bad at *
        clear hEd hval hbad h3 hev h0
        go_wp2_with fail
        go_loopw [4, 5] (fun o i wr => i = .int .i64 0 ∧ Hid (Below w4.heap.size w4 wr)) (fun _ i _ => 1000 - (intOf i).toNat)
        case atStart => exact ⟨rfl, Below.refl _ _⟩
        case round =>
          obtain ⟨rfl, hB5⟩ := hrel
          obtain ⟨w5, rfl⟩ : ∃ w5, w5 = wr := ⟨_, rfl⟩
          have hC5 := hCx.out _ hB5.out
          have hgl5 := hC5.lt
          have d1 : w5.cell? ⟨g, 1, none⟩ = some (.slice A1 up.length c1) := hC5.cell 1
          have d2 : w5.cell? ⟨g, 2, none⟩ = some (.slice AP pa.length cP) := hC5.cell 2
          have d3 : w5.cell? ⟨g, 3, none⟩ = some (.string (str self)) := hC5.cell 3
          have d4 : w5.cell? ⟨g, 4, none⟩ = some (.string (str key)) := hC5.cell 4
          clear hC5
          have q0 : ((str []).toList == ([] : List UInt8)) = true := by rw [str_toList]; rfl
          go_wp2_with fail
          refine (hEb.out _ hB5.out).mono ?_
          rintro e w6 ⟨rfl, hb6⟩
          have hB6 := Lib.hid (Below.next hB5.out hB5.out.size hb6)
          clear hb6
          go_wp2_with fail
          refine (his.out _).mono ?_
          rintro e w7 ⟨rfl, rfl⟩
          go_wp2_with fail
          go_ret
          exact ⟨rfl, hFin.out _ hB6.out⟩
end Go.Proofs.YtkcipebpknapkaaGreatDoor
