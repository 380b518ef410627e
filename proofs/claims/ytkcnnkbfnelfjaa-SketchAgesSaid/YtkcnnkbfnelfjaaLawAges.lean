/- It is proved that SketchAges returns true for every input, and leaves its arguments as they were; there is no condition. -/
import Derived.Test.YtkcnnkbfnelfjaaPlain
import Derived.Deep.DeepCutAuto
import Derived.WalkKit
import Derived.ProofKit
import Derived.OpenShut
import Derived.ShutString
import Derived.ChangeOld
import Derived.Below
namespace Go.Proofs.Ytkcnnkbfnelfjaa.sketchAges
open Go.ChangeShapes Go.WideShapes Go.ChangeAt Go.RowKit
open Go.ChangeMaps (open_string shut_string)
set_option linter.unusedVariables false

open Sk
/-- The numbers that were kept, the first n of them. -/
def kept (s : S) (n j : Nat) : Value := .int .i64 ((if j < n then est s (keyS j).data.toList else 0 : Nat) : Int)
theorem kept_zero (w : World) (s : S) (o : Obj) (h : o = .cells (rowArr 40 (kept s 0)) 46) : Blk (w.alloc o) w.heap.size 46 (rowArr 40 (kept s 0)) := by
  subst h; exact heap_alloc_new w _
theorem kept_next (s : S) (n : Nat) : (rowArr 40 (kept s n)).setIfInBounds n (.int .i64 (est s (keyS n).data.toList : Nat)) = rowArr 40 (kept s (n + 1)) := by
  rw [rowArr_set]
  refine rowArr_congr _ fun k _ => ?_
  simp only [kept]
  by_cases e : k = n
  · subst e; simp
  · by_cases h : k < n
    · simp [e, h, show k < n + 1 by omega]
    · simp [e, h, show ¬ k < n + 1 by omega]
theorem add_W' (s : S) (l : List UInt8) : (add s l).W = s.W := by
  unfold add
  split
  · show (raw s l).W = _; rw [raw_W']
  · show (raw s l).W = _; rw [raw_W']
set_option maxRecDepth 100000 in
set_option maxHeartbeats 2000000 in
theorem walk (a0 : Int) (a1 : Option Addr) (len1 cap1 : Nat) (z1 : List Int) (w : World) (w0 : (Lit.int .u8 a0).wf = true) (w1 : IsRow .u8 w a1 len1 cap1 z1) :
    Calls Try.prog 6 #[.int .u8 a0, .slice a1 len1 cap1] w fun e w' => e = .returned (.bool true) ∧ Below w.heap.size w w' := by
  have b0 := Go.bounds_u8 w0
  have hw := wid_mem a0.toNat
  have hAB := w1.len_le
  unfold maxLen at hAB
  by_cases hl : len1 = 0
  · subst hl
    go_enter Try.func6, Try.ntmps6
    go_wp2_with fail
    refine (awake_any _).mono ?_
    rintro e w1 ⟨rfl, hb1⟩
    go_wp2_with fail
    refine (awake_any _).mono ?_
    rintro e w2 ⟨rfl, hb2⟩
    go_wp2_with fail
    go_ret
    exact ⟨rfl, hb1.trans (hb2.mono hb1.size)⟩
  have hl0 : ((len1 : Int) == 0) = false := by rw [beq_eq_false_iff_ne]; omega
  go_enter Try.func6, Try.ntmps6
  go_wp2_with fail
  refine (awake_any _).mono ?_
  rintro e w1' ⟨rfl, hb1⟩
  go_wp2_with fail
  refine (width_any _ _ b0.1 b0.2).mono ?_
  rintro e w3 ⟨rfl, rfl⟩
  go_upto_if 25 with (fail)
  go_cut [5] (fun v wx => ∃ W : Nat, v = .int .i64 W ∧ (W = 16 ∨ W = 32) ∧ wx = w1')
  case first =>
    by_cases h : wid a0.toNat < 64
    · have h' : ((wid a0.toNat : Nat) : Int) / 4 < 16 := by omega
      go_wp2_with fail
      go_meet
      exact ⟨16, rfl, .inl rfl, rfl⟩
    · have h' : ¬ ((wid a0.toNat : Nat) : Int) / 4 < 16 := by omega
      go_wp2_with fail
      go_meet
      exact ⟨wid a0.toNat / 4, by simp, by omega, rfl⟩
  case rest =>
    obtain ⟨W, rfl, hW, rfl⟩ := hcut
    go_wp2_with fail
    refine (new_16 W _ (by omega)).mono ?_
    rintro e w3 ⟨rfl, hsk, hb2⟩
    have hz1 := hb1.size
    have hB2 : Below w.heap.size w w3 := hb1.trans (hb2.mono hz1)
    clear hb1 hb2
    generalize wc.heap.size = A at *
    go_wp2_with fail
    go_loopw [8, 36] (fun _ i wr => ∃ (n : Nat) (s : S), n ≤ 8 * W - 1 ∧ i = .int .i64 n ∧ s.added = n ∧ s.W = W ∧ IsSk wr A (A + 6) (A + 1) (newB A) s ∧ Below w.heap.size w wr) (fun _ i _ => 8 * W - 1 - (intOf i).toNat)
    case atStart => exact ⟨0, Sk.new W, by omega, rfl, rfl, rfl, hsk, hB2⟩
    case round =>
      rename_i v1 v2
      obtain ⟨n, s, hn, rfl, had, hsW, hsk', hb⟩ := hrel
      have HA := Lib.hid had
      have HW := Lib.hid hsW
      clear had hsW hsk hB2
      by_cases hlt : n < 8 * W - 1
      · have hm : n % len1 < len1 := Nat.mod_lt _ (by omega)
        obtain ⟨b, off, rfl, hc, h0, h1, hbl⟩ := w1.get (n % len1) hm
        have hc' : wr.cell? ⟨b, off + n % len1, none⟩ = some (.int .u8 (z1.getD (n % len1) 0)) := by rw [hb.cell (p := ⟨b, off + n % len1, none⟩) hbl]; exact hc
        clear hc
        generalize z1.getD (n % len1) 0 = q at *
        have m2 : (0 : Int) ≤ (n : Int) % (len1 : Int) := by rw [← Int.natCast_emod]; omega
        have m3 : (n : Int) % (len1 : Int) < (len1 : Int) := by rw [← Int.natCast_emod]; omega
        have m4 : ((n : Int) % (len1 : Int)).toNat = n % len1 := by rw [← Int.natCast_emod, Int.toNat_natCast]
        go_wp2_with fail
        refine (key_any _ _ h0 h1).mono ?_
        rintro e w5 ⟨rfl, hb5⟩
        have hs5 := hsk'.below hb5 hsk'.hs
        have hb5' := hb.trans (hb5.mono hb.size)
        clear hb5 hsk' hb
        go_wp2_with fail
        refine (add_any (keyS q.toNat) _ hs5 (keyS_size _) (by rw [HA.out]; omega)).mono ?_
        rintro e w6 ⟨rfl, hs6, hin⟩
        have hb6' := hb5'.trans ((hin.below (by have := hs5.hs; omega)).mono hz1)
        clear hin hs5 hb5'
        have e1 : Hid ((add s (keyS q.toNat).data.toList).added = n + 1) := Lib.hid (by rw [add_added, HA.out])
        have e2 : Hid ((add s (keyS q.toNat).data.toList).W = W) := Lib.hid (by rw [add_W', HW.out])
        generalize add s (keyS q.toNat).data.toList = s6 at *
        clear hc' m2 m3 m4
        go_wp2_with fail
        go_roundw
        case rel => exact ⟨n + 1, s6, by omega, by go_num, e1.out, e2.out, hs6, hb6'⟩
        case measure => simp [intOf]; omega
      · obtain rfl : n = 8 * W - 1 := by omega
        clear w1 hlt hn
        go_wp2_with fail
        change Code.wp _ _ _ _ (wr.alloc (.cells (rowArr 40 (kept s 0)) 46))
        have hG : Blk (wr.alloc (.cells (rowArr 40 (kept s 0)) 46)) wr.heap.size 46 (rowArr 40 (kept s 0)) := heap_alloc_new wr _
        have hsA := hsk'.kept (w' := wr.alloc (.cells (rowArr 40 (kept s 0)) 46)) (fun k _ hk => Below.heap_alloc _ _ _ (by have := hsk'.hs; omega)) (by have := hsk'.hs; simp; omega)
        have hbA := hb.alloc hb.size (.cells (rowArr 40 (kept s 0)) 46)
        have hAG : A + 6 ≤ wr.heap.size := hsk'.hs
        generalize wr.alloc (.cells (rowArr 40 (kept s 0)) 46) = wg at *
        clear hsk' hb
        generalize wr.heap.size = G at *
        go_loopw [10, 50] (fun _ i wr => ∃ m : Nat, m ≤ 40 ∧ i = .int .i64 m ∧ Blk wr G 46 (rowArr 40 (kept s m)) ∧ IsSk wr A (A + 6) (A + 1) (newB A) s ∧ Below w.heap.size w wr) (fun _ i _ => 40 - (intOf i).toNat)
        case atStart => exact ⟨0, by omega, rfl, hG, hsA, hbA⟩
        case round =>
          rename_i v3 v4
          clear hG hsA hbA
          obtain ⟨m, hm, rfl, hG, hsA, hbA⟩ := hrel
          by_cases hlt2 : m < 40
          · go_wp2_with fail
            refine (key_any _ _ (by omega) (by omega)).mono ?_
            rintro e w5 ⟨rfl, hb5⟩
            rw [Int.toNat_natCast]
            have hs5 := hsA.below hb5 hsA.hs
            have hG5 : Blk w5 G 46 (rowArr 40 (kept s m)) := (hb5.block _ hG.lt).trans hG
            have hb5' := hbA.trans (hb5.mono hbA.size)
            clear hb5 hG hsA hbA
            go_wp2_with fail
            refine (est_any (keyS m) _ hs5 (keyS_size _)).mono ?_
            rintro e w6 ⟨rfl, m1, rfl⟩
            have hs6 := hs5.drewN m1
            have hG6 := hG5.drewN m1
            have hb6 := below_drewN hb5' m1
            clear hs5 hG5 hb5'
            generalize w5.drewN m1 = w6 at *
            have c0 := hG6.cell m
            rw [rowArr_get _ _ _ hlt2] at c0
            unfold kept at c0
            have f0 := hG6.frozen m
            have HN := Lib.hid (kept_next s m)
            go_wp2_with fail
            go_roundw
            case rel => exact ⟨m + 1, by omega, by go_num, by rw [← HN.out]; exact hG6.set_ m _, hs6.kept (fun k _ hk => Below.heap_setCell _ _ _ _ (by show k ≠ G; omega)) (by rw [size_setCell]; exact hs6.hs), hb6.setCell (by show w.heap.size ≤ G; omega) _⟩
            case measure => simp [intOf]; omega
          · obtain rfl : m = 40 := by omega
            go_wp2_with fail
            refine (add_any ⟨#[111, 116, 104, 101, 114]⟩ _ hsA (by show 5 ≤ maxLen; unfold maxLen; omega) (by rw [HA.out]; omega)).mono ?_
            rintro e w5 ⟨rfl, hs5, hin⟩
            have hG5 : Blk w5 G 46 (rowArr 40 (kept s 40)) := (hin.block _ hG.lt (.inr (by omega))).trans hG
            have hb5 := hbA.trans ((hin.below (by have := hsA.hs; omega)).mono hz1)
            have hold := Lib.hid (fun k => est_old s [111, 116, 104, 101, 114] k (by rw [HA.out, HW.out]; omega) hsA.sm)
            have hca := add_added s [111, 116, 104, 101, 114]
            rw [HA.out] at hca
            have HC := Lib.hid hca
            change IsSk w5 A (A + 6) (A + 1) (newB A) (add s [111, 116, 104, 101, 114]) at hs5
            generalize add s [111, 116, 104, 101, 114] = t at *
            clear hin hG hsA hbA hca
            go_wp2_with fail
            go_loopw [11, 12, 63] (fun _ _ i wr => ∃ m : Nat, m ≤ 40 ∧ i = .int .i64 m ∧ Blk wr G 46 (rowArr 40 (kept s 40)) ∧ IsSk wr A (A + 6) (A + 1) (newB A) t ∧ Below w.heap.size w wr) (fun _ _ i _ => 40 - (intOf i).toNat)
            case atStart => exact ⟨0, by omega, rfl, hG5, hs5, hb5⟩
            case round =>
              rename_i v5 v6 v7
              clear hG5 hs5 hb5
              obtain ⟨m, hm, rfl, hG, hsA, hbA⟩ := hrel
              by_cases hlt2 : m < 40
              · go_wp2_with fail
                refine (key_any _ _ (by omega) (by omega)).mono ?_
                rintro e w6 ⟨rfl, hb6⟩
                rw [Int.toNat_natCast]
                have hs6 := hsA.below hb6 hsA.hs
                have hG6 : Blk w6 G 46 (rowArr 40 (kept s 40)) := (hb6.block _ hG.lt).trans hG
                have hb6' := hbA.trans (hb6.mono hbA.size)
                clear hb6 hG hsA hbA
                go_wp2_with fail
                refine (est_any (keyS m) _ hs6 (keyS_size _)).mono ?_
                rintro e w7 ⟨rfl, m1, rfl⟩
                have hs7 := hs6.drewN m1
                have hG7 := hG6.drewN m1
                have hb7 := below_drewN hb6' m1
                clear hs6 hG6 hb6'
                generalize w6.drewN m1 = w7 at *
                have c0 := hG7.cell m
                rw [rowArr_get _ _ _ hlt2] at c0
                unfold kept at c0
                rw [if_pos hlt2] at c0
                have ho := hold.out (keyS m).data.toList
                have hx := est_le s (keyS m).data.toList
                generalize est t (keyS m).data.toList = x at *
                generalize est s (keyS m).data.toList = y at *
                have hi : ((y : Int) - 1).tdiv 2 ≤ (x : Int) := by
                  by_cases h : y = 0
                  · subst h; simp
                  · rw [Int.tdiv_eq_ediv_of_nonneg (by omega)]; omega
                have t1 : decide ((x : Int) < ((y : Int) - 1).tdiv 2) = false := by rw [decide_eq_false_iff_not]; omega
                have t2 : decide ((8 : Int) < (x : Int)) = false := by rw [decide_eq_false_iff_not]; omega
                have t3 : decide (y < x) = false := by rw [decide_eq_false_iff_not]; omega
                go_wp2_with fail
                go_roundw
                case rel => exact ⟨m + 1, by omega, by go_num, hG7, hs7, hb7⟩
                case measure => simp [intOf]; omega
              · go_wp2_with fail
                refine (added_any _ hsA).mono ?_
                rintro e w6 ⟨rfl, m1, rfl⟩
                go_wp2_with fail
                go_ret
                exact ⟨congrArg (fun x => Ending.returned (.bool x)) (by rw [beq_iff_eq, HC.out]; omega), below_drewN hbA _⟩


theorem own : ownKnob Try.prog.godebug = none := by kernel_rfl
theorem laidOut : laidOutB Try.prog = true := by kernel_rfl
set_option maxRecDepth 100000 in
theorem lifted (os : Os) (started : os.Started) (H : Type) (enc : TypeId × Value → H) :
    ReturnsInHanded {} Try.checked os 6 .any (Rows.sketchAgesSpec.pre6 enc Try.prog Try.f6 Rows.sketchAgesRow.domain false) (Rows.sketchAgesSpec.post enc Try.prog Try.f6 false true false false) := by
  refine returnsInHanded_of_change (C := Try.checked) own started (by kernel_rfl) Try.func6
    (ChangeSpec.witness6 (enc := enc) (C := Try.checked) false ⟨#[], #[.int .u8 0, .slice none 0 0], []⟩ 8 (by kernel_rfl) (by kernel_rfl) (by kernel_rfl) (by kernel_rfl)) ?_
  intro W base args ds gs before hval0 hW hcnd _
  have hval : ∀ (j : Nat) t v, Try.f6.params[j]? = some t → args[j]? = some v → Value.okWide Try.prog W .any base t v := hval0
  have hW' := hW
  obtain ⟨p, q, hA0, hV, rfl, hfz, hnd⟩ := hW
  have hA : DataW.TrodAll enc Try.prog W 0 (fun _ => true) true Try.f6.params.toList args.toList ds p := hA0
  rw [Try.params6] at hA hval
  obtain ⟨v0, vs0, d0, ds0, p0, q0, hargs, rfl, rfl, h0, r0⟩ := trodAll_cons hA
  obtain ⟨v1, vs1, d1, ds1, p1, q1, rfl, rfl, rfl, h1, r1⟩ := trodAll_cons r0
  obtain ⟨rfl, rfl, rfl⟩ := trodAll_nil r1
  obtain rfl : args = #[v0, v1] := by cases args; simp_all
  obtain ⟨rfl, rfl⟩ := trodVars_none hV
  have k0 := h0
  have lt0 : ∀ x ∈ p0, x.block < W.heap.size := by obtain ⟨m, hm⟩ := k0; exact DataW.trod_lt m _ _ _ hm
  have k1 := h1
  have lt1 : ∀ x ∈ p1, x.block < W.heap.size := by obtain ⟨m, hm⟩ := k1; exact DataW.trod_lt m _ _ _ hm
  obtain ⟨a0, rfl, e0, _, w0⟩ := open_int Try.underlying5 (hval 0 5 v0 rfl rfl) h0
  obtain ⟨a1, len1, cap1, rfl⟩ := okWide_slice Try.underlying26 (hval 1 26 v1 rfl rfl)
  obtain ⟨z1, w1⟩ : ∃ zs, IsRow .u8 W a1 len1 cap1 zs := by
    obtain ⟨fuel, hf⟩ := h1
    rcases open_ints Try.underlying26 Try.underlying5 (by kernel_rfl) hf with ⟨hcs, _⟩ | ⟨x, l, c, zs, hcs, _, hl, hm, hz, _, hcell, hwz⟩
    · simp [Value.cells] at hcs
      obtain ⟨rfl, rfl, rfl⟩ := hcs
      exact ⟨[], .inl ⟨rfl, rfl, rfl, rfl⟩⟩
    · simp [Value.cells] at hcs
      obtain ⟨rfl, rfl, rfl⟩ := hcs
      exact ⟨zs, .inr ⟨_, rfl, hl, hm, by simpa using hz, hcell, hwz⟩⟩
  clear hA0 hval0
  refine (walk a0 a1 len1 cap1 z1 W w0 w1).mono fun e W' ⟨he, bel⟩ => ?_
  subst he
  exact ⟨_, rfl, _, _, _, [], _, [], hW', trodAll_mk1 (shut_bool Try.underlying4 _), (trodAll_cons_mk (Below.trod laidOut (by kernel_rfl) (of_decide_eq_true (by kernel_rfl)) k0 bel lt0) (trodAll_cons_mk (Below.trod laidOut (by kernel_rfl) (of_decide_eq_true (by kernel_rfl)) k1 bel lt1) trodAll_mk0)), rfl, bel.frame _, fun h => by cases h⟩

theorem over : Rows.sketchAgesRow.holds Try.pinned (OpenSpec.ofChange Rows.sketchAgesSpec) :=
  OpenClaim.holds_of_wide 6 Try.f6 rfl rfl rfl rfl rfl rfl rfl ⟨rfl, rfl, rfl, rfl, rfl⟩ rfl rfl rfl rfl rfl (by kernel_rfl) Try.func6 (by kernel_rfl)
    (of_decide_eq_true (by kernel_rfl)) (by unfold Func.isWrapper; first | (rw [if_pos (by decide +kernel)]; kernel_rfl) | (rw [if_neg (by decide +kernel)]; exact ⟨rfl, rfl⟩))
    (fun os started H enc _ => lifted os started H enc)

/-- The statement. -/
theorem proved : Rows.SketchAgesSaid := over
#print axioms proved
end Go.Proofs.Ytkcnnkbfnelfjaa.sketchAges
