/- It is proved that SketchBounds returns true for every input, and leaves its arguments as they were; there is no condition. -/
import Derived.Test.YtkcnnkbfnelfjaaPlain
import Derived.Deep.DeepCutAuto
import Derived.WalkKit
import Derived.ProofKit
import Derived.OpenShut
import Derived.ShutString
import Derived.ChangeOld
import Derived.Below
namespace Go.Proofs.Ytkcnnkbfnelfjaa.sketchBounds
open Go.ChangeShapes Go.WideShapes Go.ChangeAt Go.RowKit
open Go.ChangeMaps (open_string shut_string)
set_option linter.unusedVariables false

open Sk
/-- The numbers that were kept, the first n of them. -/
def kept (s : S) (n j : Nat) : Value := .int .i64 ((if j < n then est s (keyS j).data.toList else 0 : Nat) : Int)
theorem kept_zero (w : World) (s : S) (o : Obj) (h : o = .cells (rowArr 40 (kept s 0)) 46) : Blk (w.alloc o) w.heap.size 46 (rowArr 40 (kept s 0)) := by
  subst h; exact heap_alloc_new w _
theorem kept_next (s : S) (n : Nat) : (rowArr 40 (kept s n)).setIfInBounds n (.int .i64 (est s (keyS n).data.toList : Nat)) = rowArr 40 (kept s (n + 1)) := by
  rw [rowArr_set]
  refine rowArr_congr _ fun k _ => ?_
  simp only [kept]
  by_cases e : k = n
  · subst e; simp
  · by_cases h : k < n
    · simp [e, h, show k < n + 1 by omega]
    · simp [e, h, show ¬ k < n + 1 by omega]
theorem add_W' (s : S) (l : List UInt8) : (add s l).W = s.W := by
  unfold add
  split
  · show (raw s l).W = _; rw [raw_W']
  · show (raw s l).W = _; rw [raw_W']
def cnt (f : Nat → Nat) (j : Nat) : Value := .int .i64 ((f j : Nat) : Int)
def up (f : Nat → Nat) (p j : Nat) : Nat := if j = p then f j + 1 else f j
theorem cnt_next (f : Nat → Nat) (p : Nat) : (rowArr 40 (cnt f)).setIfInBounds p (.int .i64 ((f p + 1 : Nat) : Int)) = rowArr 40 (cnt (up f p)) := by
  rw [rowArr_set]
  refine rowArr_congr _ fun k _ => ?_
  simp only [cnt, up]
  by_cases e : k = p
  · subst e; simp
  · simp [e]
/-- No estimate is below the number of times, or 16. -/
def Good (s : S) (f : Nat → Nat) : Prop := ∀ j, j < 40 → min (f j) 16 ≤ est s (keyS j).data.toList
theorem Good.add {s : S} {f : Nat → Nat} (h : Good s f) (p : Nat) (hy : s.added + 1 < 8 * s.W) : Good (add s (keyS p).data.toList) (up f (p % 40)) := by
  intro j hj
  rw [add_young s _ hy, est_count]
  have h1 := h j hj
  have h2 := est_raw s (keyS p).data.toList (keyS j).data.toList
  unfold up
  split
  · rename_i e
    have h3 := est_same s (keyS p).data.toList
    rw [← keyS_mod p, ← e] at h3 ⊢
    omega
  · omega
theorem mono_add {s : S} (p j : Nat) (hy : s.added + 1 < 8 * s.W) : est s (keyS j).data.toList ≤ est (add s (keyS p).data.toList) (keyS j).data.toList := by
  rw [add_young s _ hy, est_count]
  exact est_raw _ _ _
set_option maxRecDepth 100000 in
set_option maxHeartbeats 4000000 in
theorem walk (a0 : Int) (a1 : Option Addr) (len1 cap1 : Nat) (z1 : List Int) (w : World) (w0 : (Lit.int .u8 a0).wf = true) (w1 : IsRow .u8 w a1 len1 cap1 z1) :
    Calls Try.prog 5 #[.int .u8 a0, .slice a1 len1 cap1] w fun e w' => e = .returned (.bool true) ∧ Below w.heap.size w w' := by
  have b0 := Go.bounds_u8 w0
  have hw := wid_mem a0.toNat
  have hAB := w1.len_le
  unfold maxLen at hAB
  go_enter Try.func5, Try.ntmps5
  go_wp2_with fail
  refine (awake_any _).mono ?_
  rintro e w1' ⟨rfl, hb1⟩
  go_wp2_with fail
  refine (width_any _ _ b0.1 b0.2).mono ?_
  rintro e w3 ⟨rfl, rfl⟩
  generalize wid a0.toNat = W at *
  go_wp2_with fail
  refine (new_16 W _ hw).mono ?_
  rintro e w3 ⟨rfl, hsk, hb2⟩
  have hz1 := hb1.size
  have hB2 : Below w.heap.size w w3 := hb1.trans (hb2.mono hz1)
  clear hb1 hb2
  generalize w1'.heap.size = A at *
  go_wp2_with fail
  change Code.wp _ _ _ _ (w3.alloc (.cells (rowArr 40 (cnt fun _ => 0)) 46))
  have hT : Blk (w3.alloc (.cells (rowArr 40 (cnt fun _ => 0)) 46)) w3.heap.size 46 (rowArr 40 (cnt fun _ => 0)) := heap_alloc_new w3 _
  have hs3 := hsk.kept (w' := w3.alloc (.cells (rowArr 40 (cnt fun _ => 0)) 46)) (fun k _ hk => Below.heap_alloc _ _ _ (by have := hsk.hs; omega)) (by have := hsk.hs; simp; omega)
  have hb3 := hB2.alloc hB2.size (.cells (rowArr 40 (cnt fun _ => 0)) 46)
  have hAT : A + 6 ≤ w3.heap.size := hsk.hs
  have hTs : w3.heap.size < (w3.alloc (.cells (rowArr 40 (cnt fun _ => 0)) 46)).heap.size := by simp
  generalize w3.alloc (.cells (rowArr 40 (cnt fun _ => 0)) 46) = w4 at *
  clear hsk hB2
  generalize w3.heap.size = T at *
  go_loopw [9, 10, 11, 12, 13, 14, 28] (fun _ _ _ _ _ _ i wr => ∃ (n : Nat) (s : S) (f : Nat → Nat), n ≤ len1 ∧ i = .int .i64 n ∧ s.added = n ∧ n < 8 * W ∧ s.W = W ∧ (∀ j, f j ≤ n) ∧ Good s f ∧ IsSk wr A (A + 6) (A + 1) (newB A) s ∧ Blk wr T 46 (rowArr 40 (cnt f)) ∧ Below w.heap.size w wr) (fun _ _ _ _ _ _ i _ => len1 - (intOf i).toNat)
  case atStart => exact ⟨0, Sk.new W, fun _ => 0, by omega, rfl, rfl, by omega, rfl, fun _ => Nat.le_refl _, fun j _ => by simp, hs3, hT, hb3⟩
  case round =>
    obtain ⟨n, s, f, hn, rfl, had, hn8, hsW, hf, hgood, hsk, hT', hb⟩ := hrel
    clear hs3 hT hb3
    have HA := Lib.hid had
    have HW := Lib.hid hsW
    have HF := Lib.hid hf
    have HG := Lib.hid hgood
    clear had hsW hf hgood
    obtain ⟨wo, hwo⟩ : ∃ wo : World, wo = wr := ⟨_, rfl⟩
    by_cases hlt : n < len1
    · obtain ⟨b, off, rfl, hc, h0, h1, hbl⟩ := w1.get n hlt
      have hc' : wr.cell? ⟨b, off + n, none⟩ = some (.int .u8 (z1.getD n 0)) := by rw [hb.cell (p := ⟨b, off + n, none⟩) hbl]; exact hc
      clear hc
      generalize z1.getD n 0 = q at *
      obtain ⟨p, rfl⟩ := Int.eq_ofNat_of_zero_le h0
      by_cases h8 : n + 1 < 8 * W
      · rcases hmod : decide (n % 16 = 0) with _ | _
        · have hmod1 : ((n : Int) % 16 == 0) = false := by rw [beq_eq_false_iff_ne]; have := of_decide_eq_false hmod; omega
          clear hmod
          go_wp2_with fail
          change Calls _ _ _ (wr.alloc (.cells (rowArr 40 (kept s 0)) 46)) _
          have hF : Blk (wr.alloc (.cells (rowArr 40 (kept s 0)) 46)) wr.heap.size 46 (rowArr 40 (kept s 0)) := heap_alloc_new wr _
          have hsk := hsk.kept (w' := wr.alloc (.cells (rowArr 40 (kept s 0)) 46)) (fun k _ hk => Below.heap_alloc _ _ _ (by have := hsk.hs; omega)) (by have := hsk.hs; simp; omega)
          have hTF : T < wr.heap.size := hT'.lt
          have hT' := hT'.alloc (.cells (rowArr 40 (kept s 0)) 46)
          have hb := hb.alloc hb.size (.cells (rowArr 40 (kept s 0)) 46)
          generalize wr.alloc (.cells (rowArr 40 (kept s 0)) 46) = wg at *
          generalize wr.heap.size = F at *
          refine (key_any _ _ h0 h1).mono ?_
          rintro e w6 ⟨rfl, hb6⟩
          rw [Int.toNat_natCast]
          have hs6 := hsk.below hb6 hsk.hs
          have hT6 : Blk w6 T 46 (rowArr 40 (cnt f)) := (hb6.block _ hT'.lt).trans hT'
          have hF6 : Blk w6 F 46 (rowArr 40 (kept s 0)) := (hb6.block _ hF.lt).trans hF
          have hb6' := hb.trans (hb6.mono hb.size)
          clear hb6 hsk hT' hF hb
          go_wp2_with fail
          refine (add_any (keyS p) _ hs6 (keyS_size _) (by rw [HA.out]; omega)).mono ?_
          rintro e w7 ⟨rfl, hs7, hin⟩
          have hT7 : Blk w7 T 46 (rowArr 40 (cnt f)) := (hin.block _ hT6.lt (.inr hAT)).trans hT6
          have hF7 : Blk w7 F 46 (rowArr 40 (kept s 0)) := (hin.block _ hF6.lt (.inr (by omega))).trans hF6
          have hb7 := hb6'.trans ((hin.below (by have := hs6.hs; omega)).mono hz1)
          have hy : s.added + 1 < 8 * s.W := by rw [HA.out, HW.out]; omega
          have HG2 := Lib.hid (HG.out.add p hy)
          have HM := Lib.hid (fun j => mono_add (s := s) p j hy)
          have HA2 : Hid ((add s (keyS p).data.toList).added = n + 1) := Lib.hid (by rw [add_added, HA.out])
          have HW2 : Hid ((add s (keyS p).data.toList).W = W) := Lib.hid (by rw [add_W', HW.out])
          generalize add s (keyS p).data.toList = t at *
          clear hin hs6 hT6 hF6 hb6' hy hc'
          have hp40 : p % 40 < 40 := Nat.mod_lt _ (by omega)
          have c0 := hT7.cell (p % 40)
          rw [rowArr_get _ _ _ hp40] at c0
          unfold cnt at c0
          have f0 := hT7.frozen (p % 40)
          have hfp := HF.out (p % 40)
          have HN := Lib.hid (cnt_next f (p % 40))
          go_wp2_with fail
          have hT8 := hT7.set_ (p % 40) (.int .i64 ((f (p % 40) + 1 : Nat) : Int))
          rw [HN.out] at hT8
          have hs8 := hs7.kept (w' := w7.setCell ⟨T, p % 40, none⟩ (.int .i64 ((f (p % 40) + 1 : Nat) : Int))) (fun k _ hk => Below.heap_setCell _ _ _ _ (by show k ≠ T; omega)) (by rw [size_setCell]; exact hs7.hs)
          have hF8 := hF7.far (p := ⟨T, p % 40, none⟩) (by show F ≠ T; omega) (.int .i64 ((f (p % 40) + 1 : Nat) : Int))
          have hb8 := hb7.setCell (p := ⟨T, p % 40, none⟩) (by show w.heap.size ≤ T; omega) (.int .i64 ((f (p % 40) + 1 : Nat) : Int))
          simp only [Int.natCast_add, Int.natCast_one] at hT8 hs8 hF8 hb8
          generalize w7.setCell ⟨T, p % 40, none⟩ (.int .i64 ((f (p % 40) : Int) + 1)) = w8 at *
          clear hs7 hT7 hF7 hb7 c0 f0
          have HU : Hid (∀ j, up f (p % 40) j ≤ n + 1) := Lib.hid (fun j => by have := HF.out j; unfold up; split <;> omega)
          generalize up f (p % 40) = g at *
          go_loopw [13, 14, 62] (fun _ _ i wr => ∃ m : Nat, m ≤ 40 ∧ i = .int .i64 m ∧ IsSk wr A (A + 6) (A + 1) (newB A) t ∧ Blk wr T 46 (rowArr 40 (cnt g)) ∧ Blk wr F 46 (rowArr 40 (kept s 0)) ∧ Below w.heap.size w wr) (fun _ _ i _ => 40 - (intOf i).toNat)
          case atStart => exact ⟨0, by omega, rfl, hs8, hT8, hF8, hb8⟩
          case round =>
            clear hs8 hT8 hF8 hb8
            obtain ⟨m, hm, rfl, hsA, hTA, hFA, hbA⟩ := hrel
            by_cases hlt3 : m < 40
            · go_wp2_with fail
              refine (key_any _ _ (by omega) (by omega)).mono ?_
              rintro e w9 ⟨rfl, hb9⟩
              rw [Int.toNat_natCast]
              have hsB := hsA.below hb9 hsA.hs
              have hTB : Blk w9 T 46 (rowArr 40 (cnt g)) := (hb9.block _ hTA.lt).trans hTA
              have hFB : Blk w9 F 46 (rowArr 40 (kept s 0)) := (hb9.block _ hFA.lt).trans hFA
              have hbB := hbA.trans (hb9.mono hbA.size)
              clear hb9 hsA hTA hFA hbA
              go_wp2_with fail
              refine (est_any (keyS m) _ hsB (keyS_size _)).mono ?_
              rintro e w10 ⟨rfl, m1, rfl⟩
              have hsC := hsB.drewN m1
              have hTC := hTB.drewN m1
              have hFC := hFB.drewN m1
              have hbC := below_drewN hbB m1
              clear hsB hTB hFB hbB
              generalize w9.drewN m1 = w10 at *
              have c1 := hTC.cell m
              rw [rowArr_get _ _ _ hlt3] at c1
              unfold cnt at c1
              have hx := est_le t (keyS m).data.toList
              have hg := HG2.out m hlt3
              have hu := HU.out m
              have hmo := HM.out m
              skip
              generalize est t (keyS m).data.toList = x at *
              generalize est s (keyS m).data.toList = y at *
              generalize g m = z at *
              have t2 : decide (16 < x) = false := by rw [decide_eq_false_iff_not]; omega
              skip
              by_cases hz : 16 < z
              · have hz' : (16 : Int) < (z : Int) := by omega
                have t3 : decide ((x : Int) < 16) = false := by rw [decide_eq_false_iff_not]; omega
                have t4 : decide (x < 16) = false := by rw [decide_eq_false_iff_not]; omega
                go_wp2_with fail
                go_roundw
                case rel => exact ⟨m + 1, by omega, by go_num, hsC, hTC, hFC, hbC⟩
                case measure => simp [intOf]; omega
              · have hz' : ¬ (16 : Int) < (z : Int) := by omega
                have t3 : decide (x < z) = false := by rw [decide_eq_false_iff_not]; omega
                go_wp2_with fail
                go_roundw
                case rel => exact ⟨m + 1, by omega, by go_num, hsC, hTC, hFC, hbC⟩
                case measure => simp [intOf]; omega
            · go_wp2_with fail
              go_roundw
              case rel => exact ⟨n + 1, t, g, by omega, by go_num, HA2.out, by omega, HW2.out, HU.out, HG2.out, hsA, hTA, hbA⟩
              case measure => simp [intOf]; omega
        · have hmod1 : ((n : Int) % 16 == 0) = true := by rw [beq_iff_eq]; have := of_decide_eq_true hmod; omega
          clear hmod
          go_wp2_with fail
          change Code.wp _ _ _ _ (wr.alloc (.cells (rowArr 40 (kept s 0)) 46))
          have hF : Blk (wr.alloc (.cells (rowArr 40 (kept s 0)) 46)) wr.heap.size 46 (rowArr 40 (kept s 0)) := heap_alloc_new wr _
          have hsk := hsk.kept (w' := wr.alloc (.cells (rowArr 40 (kept s 0)) 46)) (fun k _ hk => Below.heap_alloc _ _ _ (by have := hsk.hs; omega)) (by have := hsk.hs; simp; omega)
          have hTF : T < wr.heap.size := hT'.lt
          have hT' := hT'.alloc (.cells (rowArr 40 (kept s 0)) 46)
          have hb := hb.alloc hb.size (.cells (rowArr 40 (kept s 0)) 46)
          generalize wr.alloc (.cells (rowArr 40 (kept s 0)) 46) = wg at *
          generalize wr.heap.size = F at *
          go_loopw [12, 41] (fun _ i wr => ∃ m : Nat, m ≤ 40 ∧ i = .int .i64 m ∧ IsSk wr A (A + 6) (A + 1) (newB A) s ∧ Blk wr T 46 (rowArr 40 (cnt f)) ∧ Blk wr F 46 (rowArr 40 (kept s m)) ∧ Below w.heap.size w wr) (fun _ i _ => 40 - (intOf i).toNat)
          case atStart => exact ⟨0, by omega, rfl, hsk, hT', hF, hb⟩
          case round =>
            clear hsk hT' hF hb
            obtain ⟨m, hm, rfl, hsA, hTA, hFA, hbA⟩ := hrel
            by_cases hlt3 : m < 40
            · go_wp2_with fail
              refine (key_any _ _ (by omega) (by omega)).mono ?_
              rintro e w9 ⟨rfl, hb9⟩
              rw [Int.toNat_natCast]
              have hsB := hsA.below hb9 hsA.hs
              have hTB : Blk w9 T 46 (rowArr 40 (cnt f)) := (hb9.block _ hTA.lt).trans hTA
              have hFB : Blk w9 F 46 (rowArr 40 (kept s m)) := (hb9.block _ hFA.lt).trans hFA
              have hbB := hbA.trans (hb9.mono hbA.size)
              clear hb9 hsA hTA hFA hbA
              go_wp2_with fail
              refine (est_any (keyS m) _ hsB (keyS_size _)).mono ?_
              rintro e w10 ⟨rfl, m1, rfl⟩
              have hsC := hsB.drewN m1
              have hTC := hTB.drewN m1
              have hFC := hFB.drewN m1
              have hbC := below_drewN hbB m1
              clear hsB hTB hFB hbB
              generalize w9.drewN m1 = w10 at *
              have c0 := hFC.cell m
              rw [rowArr_get _ _ _ hlt3] at c0
              unfold kept at c0
              have f0 := hFC.frozen m
              have HN := Lib.hid (kept_next s m)
              go_wp2_with fail
              go_roundw
              case rel => exact ⟨m + 1, by omega, by go_num, hsC.kept (fun k _ hk => Below.heap_setCell _ _ _ _ (by show k ≠ F; omega)) (by rw [size_setCell]; exact hsC.hs), hTC.far (by show T ≠ F; omega) _, by rw [← HN.out]; exact hFC.set_ m _, hbC.setCell (by show w.heap.size ≤ F; omega) _⟩
              case measure => simp [intOf]; omega
            · obtain rfl : m = 40 := by omega
              have hsk := hsA
              have hT' := hTA
              have hF := hFA
              have hb := hbA
              clear hsA hTA hFA hbA
              go_wp2_with fail
              refine (key_any _ _ h0 h1).mono ?_
              rintro e w6 ⟨rfl, hb6⟩
              rw [Int.toNat_natCast]
              have hs6 := hsk.below hb6 hsk.hs
              have hT6 : Blk w6 T 46 (rowArr 40 (cnt f)) := (hb6.block _ hT'.lt).trans hT'
              have hF6 : Blk w6 F 46 (rowArr 40 (kept s 40)) := (hb6.block _ hF.lt).trans hF
              have hb6' := hb.trans (hb6.mono hb.size)
              clear hb6 hsk hT' hF hb
              go_wp2_with fail
              refine (add_any (keyS p) _ hs6 (keyS_size _) (by rw [HA.out]; omega)).mono ?_
              rintro e w7 ⟨rfl, hs7, hin⟩
              have hT7 : Blk w7 T 46 (rowArr 40 (cnt f)) := (hin.block _ hT6.lt (.inr hAT)).trans hT6
              have hF7 : Blk w7 F 46 (rowArr 40 (kept s 40)) := (hin.block _ hF6.lt (.inr (by omega))).trans hF6
              have hb7 := hb6'.trans ((hin.below (by have := hs6.hs; omega)).mono hz1)
              have hy : s.added + 1 < 8 * s.W := by rw [HA.out, HW.out]; omega
              have HG2 := Lib.hid (HG.out.add p hy)
              have HM := Lib.hid (fun j => mono_add (s := s) p j hy)
              have HA2 : Hid ((add s (keyS p).data.toList).added = n + 1) := Lib.hid (by rw [add_added, HA.out])
              have HW2 : Hid ((add s (keyS p).data.toList).W = W) := Lib.hid (by rw [add_W', HW.out])
              generalize add s (keyS p).data.toList = t at *
              clear hin hs6 hT6 hF6 hb6' hy hc'
              have hp40 : p % 40 < 40 := Nat.mod_lt _ (by omega)
              have c0 := hT7.cell (p % 40)
              rw [rowArr_get _ _ _ hp40] at c0
              unfold cnt at c0
              have f0 := hT7.frozen (p % 40)
              have hfp := HF.out (p % 40)
              have HN := Lib.hid (cnt_next f (p % 40))
              go_wp2_with fail
              have hT8 := hT7.set_ (p % 40) (.int .i64 ((f (p % 40) + 1 : Nat) : Int))
              rw [HN.out] at hT8
              have hs8 := hs7.kept (w' := w7.setCell ⟨T, p % 40, none⟩ (.int .i64 ((f (p % 40) + 1 : Nat) : Int))) (fun k _ hk => Below.heap_setCell _ _ _ _ (by show k ≠ T; omega)) (by rw [size_setCell]; exact hs7.hs)
              have hF8 := hF7.far (p := ⟨T, p % 40, none⟩) (by show F ≠ T; omega) (.int .i64 ((f (p % 40) + 1 : Nat) : Int))
              have hb8 := hb7.setCell (p := ⟨T, p % 40, none⟩) (by show w.heap.size ≤ T; omega) (.int .i64 ((f (p % 40) + 1 : Nat) : Int))
              simp only [Int.natCast_add, Int.natCast_one] at hT8 hs8 hF8 hb8
              generalize w7.setCell ⟨T, p % 40, none⟩ (.int .i64 ((f (p % 40) : Int) + 1)) = w8 at *
              clear hs7 hT7 hF7 hb7 c0 f0
              have HU : Hid (∀ j, up f (p % 40) j ≤ n + 1) := Lib.hid (fun j => by have := HF.out j; unfold up; split <;> omega)
              generalize up f (p % 40) = g at *
              go_loopw [13, 14, 62] (fun _ _ i wr => ∃ m : Nat, m ≤ 40 ∧ i = .int .i64 m ∧ IsSk wr A (A + 6) (A + 1) (newB A) t ∧ Blk wr T 46 (rowArr 40 (cnt g)) ∧ Blk wr F 46 (rowArr 40 (kept s 40)) ∧ Below w.heap.size w wr) (fun _ _ i _ => 40 - (intOf i).toNat)
              case atStart => exact ⟨0, by omega, rfl, hs8, hT8, hF8, hb8⟩
              case round =>
                clear hs8 hT8 hF8 hb8
                obtain ⟨m, hm, rfl, hsA, hTA, hFA, hbA⟩ := hrel
                by_cases hlt3 : m < 40
                · go_wp2_with fail
                  refine (key_any _ _ (by omega) (by omega)).mono ?_
                  rintro e w9 ⟨rfl, hb9⟩
                  rw [Int.toNat_natCast]
                  have hsB := hsA.below hb9 hsA.hs
                  have hTB : Blk w9 T 46 (rowArr 40 (cnt g)) := (hb9.block _ hTA.lt).trans hTA
                  have hFB : Blk w9 F 46 (rowArr 40 (kept s 40)) := (hb9.block _ hFA.lt).trans hFA
                  have hbB := hbA.trans (hb9.mono hbA.size)
                  clear hb9 hsA hTA hFA hbA
                  go_wp2_with fail
                  refine (est_any (keyS m) _ hsB (keyS_size _)).mono ?_
                  rintro e w10 ⟨rfl, m1, rfl⟩
                  have hsC := hsB.drewN m1
                  have hTC := hTB.drewN m1
                  have hFC := hFB.drewN m1
                  have hbC := below_drewN hbB m1
                  clear hsB hTB hFB hbB
                  generalize w9.drewN m1 = w10 at *
                  have c1 := hTC.cell m
                  rw [rowArr_get _ _ _ hlt3] at c1
                  unfold cnt at c1
                  have hx := est_le t (keyS m).data.toList
                  have hg := HG2.out m hlt3
                  have hu := HU.out m
                  have hmo := HM.out m
                  have c2 := hFC.cell m
                  rw [rowArr_get _ _ _ hlt3] at c2
                  unfold kept at c2
                  rw [if_pos hlt3] at c2
                  generalize est t (keyS m).data.toList = x at *
                  generalize est s (keyS m).data.toList = y at *
                  generalize g m = z at *
                  have t2 : decide (16 < x) = false := by rw [decide_eq_false_iff_not]; omega
                  have t1 : decide (x < y) = false := by rw [decide_eq_false_iff_not]; omega
                  by_cases hz : 16 < z
                  · have hz' : (16 : Int) < (z : Int) := by omega
                    have t3 : decide ((x : Int) < 16) = false := by rw [decide_eq_false_iff_not]; omega
                    have t4 : decide (x < 16) = false := by rw [decide_eq_false_iff_not]; omega
                    go_wp2_with fail
                    go_roundw
                    case rel => exact ⟨m + 1, by omega, by go_num, hsC, hTC, hFC, hbC⟩
                    case measure => simp [intOf]; omega
                  · have hz' : ¬ (16 : Int) < (z : Int) := by omega
                    have t3 : decide (x < z) = false := by rw [decide_eq_false_iff_not]; omega
                    go_wp2_with fail
                    go_roundw
                    case rel => exact ⟨m + 1, by omega, by go_num, hsC, hTC, hFC, hbC⟩
                    case measure => simp [intOf]; omega
                · go_wp2_with fail
                  go_roundw
                  case rel => exact ⟨n + 1, t, g, by omega, by go_num, HA2.out, by omega, HW2.out, HU.out, HG2.out, hsA, hTA, hbA⟩
                  case measure => simp [intOf]; omega
      · go_wp2_with fail
        go_ret
        exact ⟨rfl, hb⟩
    · go_wp2_with fail
      go_ret
      exact ⟨rfl, hb⟩


theorem own : ownKnob Try.prog.godebug = none := by kernel_rfl
theorem laidOut : laidOutB Try.prog = true := by kernel_rfl
set_option maxRecDepth 100000 in
theorem lifted (os : Os) (started : os.Started) (H : Type) (enc : TypeId × Value → H) :
    ReturnsInHanded {} Try.checked os 5 .any (Rows.sketchBoundsSpec.pre6 enc Try.prog Try.f5 Rows.sketchBoundsRow.domain false) (Rows.sketchBoundsSpec.post enc Try.prog Try.f5 false true false false) := by
  refine returnsInHanded_of_change (C := Try.checked) own started (by kernel_rfl) Try.func5
    (ChangeSpec.witness6 (enc := enc) (C := Try.checked) false ⟨#[], #[.int .u8 0, .slice none 0 0], []⟩ 8 (by kernel_rfl) (by kernel_rfl) (by kernel_rfl) (by kernel_rfl)) ?_
  intro W base args ds gs before hval0 hW hcnd _
  have hval : ∀ (j : Nat) t v, Try.f5.params[j]? = some t → args[j]? = some v → Value.okWide Try.prog W .any base t v := hval0
  have hW' := hW
  obtain ⟨p, q, hA0, hV, rfl, hfz, hnd⟩ := hW
  have hA : DataW.TrodAll enc Try.prog W 0 (fun _ => true) true Try.f5.params.toList args.toList ds p := hA0
  rw [Try.params5] at hA hval
  obtain ⟨v0, vs0, d0, ds0, p0, q0, hargs, rfl, rfl, h0, r0⟩ := trodAll_cons hA
  obtain ⟨v1, vs1, d1, ds1, p1, q1, rfl, rfl, rfl, h1, r1⟩ := trodAll_cons r0
  obtain ⟨rfl, rfl, rfl⟩ := trodAll_nil r1
  obtain rfl : args = #[v0, v1] := by cases args; simp_all
  obtain ⟨rfl, rfl⟩ := trodVars_none hV
  have k0 := h0
  have lt0 : ∀ x ∈ p0, x.block < W.heap.size := by obtain ⟨m, hm⟩ := k0; exact DataW.trod_lt m _ _ _ hm
  have k1 := h1
  have lt1 : ∀ x ∈ p1, x.block < W.heap.size := by obtain ⟨m, hm⟩ := k1; exact DataW.trod_lt m _ _ _ hm
  obtain ⟨a0, rfl, e0, _, w0⟩ := open_int Try.underlying5 (hval 0 5 v0 rfl rfl) h0
  obtain ⟨a1, len1, cap1, rfl⟩ := okWide_slice Try.underlying26 (hval 1 26 v1 rfl rfl)
  obtain ⟨z1, w1⟩ : ∃ zs, IsRow .u8 W a1 len1 cap1 zs := by
    obtain ⟨fuel, hf⟩ := h1
    rcases open_ints Try.underlying26 Try.underlying5 (by kernel_rfl) hf with ⟨hcs, _⟩ | ⟨x, l, c, zs, hcs, _, hl, hm, hz, _, hcell, hwz⟩
    · simp [Value.cells] at hcs
      obtain ⟨rfl, rfl, rfl⟩ := hcs
      exact ⟨[], .inl ⟨rfl, rfl, rfl, rfl⟩⟩
    · simp [Value.cells] at hcs
      obtain ⟨rfl, rfl, rfl⟩ := hcs
      exact ⟨zs, .inr ⟨_, rfl, hl, hm, by simpa using hz, hcell, hwz⟩⟩
  clear hA0 hval0
  refine (walk a0 a1 len1 cap1 z1 W w0 w1).mono fun e W' ⟨he, bel⟩ => ?_
  subst he
  exact ⟨_, rfl, _, _, _, [], _, [], hW', trodAll_mk1 (shut_bool Try.underlying4 _), (trodAll_cons_mk (Below.trod laidOut (by kernel_rfl) (of_decide_eq_true (by kernel_rfl)) k0 bel lt0) (trodAll_cons_mk (Below.trod laidOut (by kernel_rfl) (of_decide_eq_true (by kernel_rfl)) k1 bel lt1) trodAll_mk0)), rfl, bel.frame _, fun h => by cases h⟩

theorem over : Rows.sketchBoundsRow.holds Try.pinned (OpenSpec.ofChange Rows.sketchBoundsSpec) :=
  OpenClaim.holds_of_wide 5 Try.f5 rfl rfl rfl rfl rfl rfl rfl ⟨rfl, rfl, rfl, rfl, rfl⟩ rfl rfl rfl rfl rfl (by kernel_rfl) Try.func5 (by kernel_rfl)
    (of_decide_eq_true (by kernel_rfl)) (by unfold Func.isWrapper; first | (rw [if_pos (by decide +kernel)]; kernel_rfl) | (rw [if_neg (by decide +kernel)]; exact ⟨rfl, rfl⟩))
    (fun os started H enc _ => lifted os started H enc)

/-- The statement. -/
theorem proved : Rows.SketchBoundsSaid := over
#print axioms proved
end Go.Proofs.Ytkcnnkbfnelfjaa.sketchBounds
