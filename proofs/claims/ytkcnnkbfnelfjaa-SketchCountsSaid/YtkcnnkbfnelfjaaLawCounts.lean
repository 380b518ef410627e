/- It is proved that SketchCounts returns true for every input, and leaves its arguments as they were; there is no condition. -/
import Derived.Test.YtkcnnkbfnelfjaaPair
import Derived.Deep.RegionHeld3
import Derived.Deep.RegionLaw
import Derived.WalkKit
import Derived.ProofKit
import Derived.OpenShut
import Derived.ShutString
import Derived.ChangeOld
import Derived.Below
namespace Go.Proofs.Ytkcnnkbfnelfjaa.sketchCounts
open Go.ChangeShapes Go.WideShapes Go.ChangeAt Go.RowKit
open Go.ChangeMaps (open_string shut_string)
set_option linter.unusedVariables false

open Sk
theorem walk_big (a0 : Int) (a1 : Option Addr) (len1 cap1 : Nat) (v2 : Value) (w : World) (w1 : len1 ≤ maxLen) (hl : ¬ len1 ≤ 300) :
    Calls Try.prog 4 #[.int .u8 a0, .slice a1 len1 cap1, v2] w fun e w' => e = .returned (.bool true) ∧ Below w.heap.size w w' := by
  unfold maxLen at w1
  go_enter Try.func4, Try.ntmps4
  go_wp2_with fail
  refine (awake_any _).mono ?_
  rintro e w1 ⟨rfl, hb1⟩
  go_wp2_with fail
  refine (awake_any _).mono ?_
  rintro e w2 ⟨rfl, hb2⟩
  go_wp2_with fail
  go_ret
  exact ⟨rfl, hb1.trans (hb2.mono hb1.size)⟩
set_option maxRecDepth 100000 in
set_option maxHeartbeats 2000000 in
theorem walk (a0 : Int) (a1 : Option Addr) (len1 cap1 : Nat) (z1 : List Int) (a2 : Int) (w : World) (w0 : (Lit.int .u8 a0).wf = true) (w1 : IsRow .u8 w a1 len1 cap1 z1) (w2 : (Lit.int .u8 a2).wf = true) :
    Calls Try.prog 4 #[.int .u8 a0, .slice a1 len1 cap1, .int .u8 a2] w fun e w' => e = .returned (.bool true) ∧ Below w.heap.size w w' := by
  have b0 := Go.bounds_u8 w0
  have b2 := Go.bounds_u8 w2
  by_cases hl : len1 ≤ 300
  case neg => exact walk_big a0 a1 len1 cap1 _ w w1.len_le hl
  have hw := wid_mem a0.toNat
  have hAB := w1.len_le
  unfold maxLen at hAB
  obtain ⟨r, hr8, hr⟩ : ∃ r : Nat, r ≤ 8 ∧ 1 + a2 % 8 = (r : Int) := ⟨(1 + a2 % 8).toNat, by omega, by omega⟩
  have HR := Lib.hid hr
  clear hr
  go_enter Try.func4, Try.ntmps4
  go_wp2_with fail
  refine (awake_any _).mono ?_
  rintro e w1' ⟨rfl, hb1⟩
  go_wp2_with fail
  refine (width_any _ _ b0.1 b0.2).mono ?_
  rintro e w3 ⟨rfl, rfl⟩
  go_wp2_with fail
  refine (new_16 _ _ hw).mono ?_
  rintro e w3 ⟨rfl, hsk, hb2⟩
  have hz1 := hb1.size
  have hB2 : Below w.heap.size w w3 := hb1.trans (hb2.mono hz1)
  clear hb1 hb2
  generalize w1'.heap.size = A at *
  go_wp2_with fail
  refine (width_any _ _ b0.1 b0.2).mono ?_
  rintro e w4 ⟨rfl, rfl⟩
  go_wp2_with fail
  refine (rnew_any _ _ (by omega) (by omega)).mono ?_
  rintro e w4 ⟨rfl, href, hb3⟩
  have hsk4 := hsk.below hb3 hsk.hs
  have hz2 := hB2.size
  have hz3 := hb3.size
  have hB3 := hB2.trans (hb3.mono hz2)
  have hAR := hsk.hs
  clear hB2 hb3 hsk
  generalize w3.heap.size = R at *
  have hG : R ≤ w4.heap.size := hz3
  have hP : Pair ((w4.alloc (.cells zeroR 37)).setRow w4.heap.size (refV (wid a0.toNat) (newR R) 0)) A R w4.heap.size (newR R) (Sk.new (wid a0.toNat)) := by
    have hn := heap_alloc_new w4 (.cells zeroR 37)
    have hlt : ∀ i, i ≤ 4 → newR R i ≠ w4.heap.size := fun i hi => by have := href.lt i hi; omega
    exact ⟨hsk4.kept (fun k _ hk => (setRow_other _ _ _ _ (by omega)).trans (Below.heap_alloc _ _ _ (by omega))) (by simp; omega), ((href.alloc _).setRow hlt _), setRow_heap _ _ _ _ _ _ hn, hAR, hG, hlt⟩
  have hB4 : Below w.heap.size w ((w4.alloc (.cells zeroR 37)).setRow w4.heap.size (refV (wid a0.toNat) (newR R) 0)) := below_setRow (hB3.alloc (by omega) _) (by omega) _
  have h1c := refV_one (wid a0.toNat) (newR R) 0
  go_wp2_with (refine wpList_store_row rfl 37 (.tmp 9) (.tmp 31) rfl w4.heap.size (refV (wid a0.toNat) (newR R) 0) rfl rfl 37 _ (heap_alloc_new w4 (.cells zeroR 37)) (by kernel_rfl) rfl h1c ?_)
  unfold zeroR at hP hB4
  generalize (w4.alloc (.cells #[.int .i64 0, .slice none 0 0, .slice none 0 0, .slice none 0 0, .slice none 0 0, .slice none 0 0, .int .i64 0] 37)).setRow w4.heap.size (refV (wid a0.toNat) (newR R) 0) = w5 at *
  clear hsk4 href hB3 h1c
  generalize w4.heap.size = G at *
  rw [HR.out]
  go_loopw [11, 36] (fun _ i wr => ∃ (n : Nat) (s : S) (B : Nat → Nat), n ≤ r ∧ i = .int .i64 n ∧ s.added ≤ n * 300 ∧ Pair wr A R G B s ∧ Below w.heap.size w wr) (fun _ i _ => r - (intOf i).toNat)
  case atStart => exact ⟨0, Sk.new (wid a0.toNat), newR R, by omega, rfl, Nat.zero_le _, hP, hB4⟩
  case round =>
    rename_i v1 v2
    obtain ⟨n, s, B, hn, rfl, had, hP', hb⟩ := hrel
    obtain ⟨wo, hwo⟩ : ∃ wo : World, wo = wr := ⟨_, rfl⟩
    clear hP hB4
    by_cases hlt : n < r
    · go_wp2_with fail
      go_loopw [11, 40] (fun _ i wr => ∃ (m : Nat) (s : S) (B : Nat → Nat), m ≤ len1 ∧ i = .int .i64 m ∧ s.added ≤ n * 300 + m ∧ Pair wr A R G B s ∧ Below w.heap.size w wr) (fun _ i _ => len1 - (intOf i).toNat)
      case atStart => exact ⟨0, s, B, by omega, rfl, had, hP', hb⟩
      case round =>
        rename_i v3 v4
        clear hP' hb had hwo
        obtain ⟨m, s, B, hm, rfl, had, hP', hb⟩ := hrel
        by_cases hlt2 : m < len1
        · obtain ⟨b, off, rfl, hc, h0, h1, hbl⟩ := w1.get m hlt2
          have hc' : wr.cell? ⟨b, off + m, none⟩ = some (.int .u8 (z1.getD m 0)) := by rw [hb.cell (p := ⟨b, off + m, none⟩) hbl]; exact hc
          clear hc
          generalize z1.getD m 0 = q at *
          go_wp2_with fail
          refine (key_any _ _ h0 h1).mono ?_
          rintro e w6 ⟨rfl, hb6⟩
          have hP6 := hP'.below hb6
          have hb6' := hb.trans (hb6.mono hb.size)
          clear hb6 hP' hb
          go_wp2_with fail
          refine (add_any (keyS q.toNat) _ hP6.a (keyS_size _) (by omega)).mono ?_
          rintro e w7 ⟨rfl, hA7, hin⟩
          have hR7 : IsRef w7 R B s := hP6.b.kept fun i hi => hin.block _ (hP6.b.lt i hi) (.inr (by have := hP6.b.rB i hi; omega))
          have hG7 : Blk w7 G 37 (refV s.W B s.added) := (hin.block _ hP6.g.lt (.inr (by omega))).trans hP6.g
          have hb7' := hb6'.trans ((hin.below (by have := hP6.a.hs; omega)).mono hz1)
          have hn7 := hP6.n
          have had7 : s.added < 999999999 := by omega
          clear hP6 hb6' hin
          go_wp2_with fail
          have hgf : ∀ i, i ≤ 4 → G ≠ B i := fun i hi e => hn7 i hi e.symm
          obtain ⟨p0, p1, p2, p3, p4, p5, p6⟩ := refV_cells hG7
          go_region_with (first
            | (go_at_call 17; refine (key_any _ _ h0 h1).mono ?_; rintro e w8 ⟨rfl, hb8⟩; have hG8 := (hb8.block G hG7.lt).trans hG7; obtain ⟨q0, q1, q2, q3, q4, q5, q6⟩ := refV_cells hG8)
            | (go_at_call 18; refine (radd_any (lo := R) (B := B) (s := s) (keyS q.toNat) w8 (hR7.below (below_of_drew hb8)) (keyS_size _) had7).mono ?_; rintro e w9 ⟨B', rfl, hR9, hb9, hoth9⟩; have hG9 := (hoth9 G (Nat.lt_of_lt_of_le hG7.lt hb8.size) hgf).trans hG8; have hst := run_store_refV (W' := s.W) (n' := s.added + 1) (B' := B') hG9))
          all_goals
            have hb8' := below_of_drew hb8
            have hPn := pair_next hA7 hAR hG hb8' hb9 hR9 hG9 (add_added _ _) (add_W _ _)
            have hbn := below_setRow ((hb7'.trans (hb8'.mono hb7'.size)).trans (hb9.mono hz2)) (show w.heap.size ≤ G by omega) (refV s.W B' (s.added + 1))
            have hadn : (add s (keyS q.toNat).data.toList).added = s.added + 1 := add_added _ _
            clear hst q0 q1 q2 q3 q4 q5 q6 p0 p1 p2 p3 p4 p5 p6 hG9 hG8 hoth9 hgf hb8' hb8 hb9 hR9 hA7 hR7 hG7 hb7' hc'
            have HAD := Lib.hid hadn
            clear hadn
            go_wp2_with fail
            go_roundw
            case rel => exact ⟨m + 1, _, _, by omega, by go_num, by rw [HAD.out]; omega, hPn, hbn⟩
            case measure => simp [intOf]; omega
        · obtain rfl : m = len1 := by omega
          go_wp2_with fail
          go_roundw
          case rel => exact ⟨n + 1, s, B, by omega, by go_num, by omega, hP', hb⟩
          case measure => simp [intOf]; omega
    · clear hwo
      go_wp2_with fail
      go_loopw [12, 54] (fun _ i wr => ∃ m : Nat, m ≤ 40 ∧ i = .int .i64 m ∧ Pair wr A R G B s ∧ Below w.heap.size w wr) (fun _ i _ => 40 - (intOf i).toNat)
      case atStart => exact ⟨0, by omega, rfl, hP', hb⟩
      case round =>
        rename_i v3 v4
        clear hP' hb
        obtain ⟨m, hm, rfl, hP', hb⟩ := hrel
        have L : SP wr A R G B s wr := SP.mk' hP' (Below.refl _ _)
        by_cases hlt2 : m < 40
        · have i1 : (0 : Int) ≤ (m : Int) := by omega
          have i2 : (m : Int) ≤ 255 := by omega
          have i3 : IntKind.u8.wrap (m : Int) = (m : Int) := IntWalk.u8_in _ ⟨by omega, by omega⟩
          go_wp2_with fail
          go_region_held3 (fun w' => Pair w' A R G B s ∧ Below wr.heap.size wr w' ∧ w'.cell? ⟨G, 0, none⟩ = some (.int .i64 s.W) ∧ w'.cell? ⟨G, 1, none⟩ = some (.slice (some ⟨B 0, 0, none⟩) s.W s.W) ∧ w'.cell? ⟨G, 2, none⟩ = some (.slice (some ⟨B 1, 0, none⟩) s.W s.W) ∧ w'.cell? ⟨G, 3, none⟩ = some (.slice (some ⟨B 2, 0, none⟩) s.W s.W) ∧
              w'.cell? ⟨G, 4, none⟩ = some (.slice (some ⟨B 3, 0, none⟩) s.W s.W) ∧ w'.cell? ⟨G, 5, none⟩ = some (.slice (some ⟨B 4, 0, none⟩) s.W s.W) ∧ w'.cell? ⟨G, 6, none⟩ = some (.int .i64 s.added))
            (first | exact L | exact SP.below (Below.refl _ _).drew L | exact SP.below (by assumption) (by assumption))
            (first | (go_at_call 17; refine (key_any _ _ (by omega) (by omega)).mono ?_; rintro e w6 ⟨rfl, hb6⟩) | (go_at_call 19; refine (est_below (s := s) _ _ (SP.isA (wr := wr) (R := R) (G := G) (B := B) (by assumption)) (keyS_size _)).mono ?_; rintro e w6 ⟨rfl, hb6⟩) | (go_at_call 20; refine (rest_any (s := s) (lo := R) (B := B) _ _ (SP.isB (wr := wr) (A := A) (G := G) (by assumption)) (keyS_size _)).mono ?_; rintro e w6 ⟨rfl, hb6⟩))
          have hH : SP wr A R G B s w6 := by assumption
          clear L i1 i2 i3
          go_wp2_with fail
          go_roundw
          case rel => exact ⟨m + 1, by omega, by go_num, hH.1, hb.trans (hH.2.1.mono hb.size)⟩
          case measure => simp [intOf]; omega
        · go_wp2_with fail
          go_region_held3 (fun w' => Pair w' A R G B s ∧ Below wr.heap.size wr w' ∧ w'.cell? ⟨G, 0, none⟩ = some (.int .i64 s.W) ∧ w'.cell? ⟨G, 1, none⟩ = some (.slice (some ⟨B 0, 0, none⟩) s.W s.W) ∧ w'.cell? ⟨G, 2, none⟩ = some (.slice (some ⟨B 1, 0, none⟩) s.W s.W) ∧ w'.cell? ⟨G, 3, none⟩ = some (.slice (some ⟨B 2, 0, none⟩) s.W s.W) ∧
              w'.cell? ⟨G, 4, none⟩ = some (.slice (some ⟨B 3, 0, none⟩) s.W s.W) ∧ w'.cell? ⟨G, 5, none⟩ = some (.slice (some ⟨B 4, 0, none⟩) s.W s.W) ∧ w'.cell? ⟨G, 6, none⟩ = some (.int .i64 s.added))
            (first | exact L | exact SP.below (Below.refl _ _).drew L | exact SP.below (by assumption) (by assumption))
            (first | (go_at_call 21; refine (added_below (s := s) _ (SP.isA (wr := wr) (R := R) (G := G) (B := B) (by assumption))).mono ?_; rintro e w6 ⟨rfl, hb6⟩))
          have hH : SP wr A R G B s w6 := by assumption
          go_wp2_with fail
          go_ret
          exact ⟨rfl, hb.trans (hH.2.1.mono hb.size)⟩


theorem own : ownKnob Try.prog.godebug = none := by kernel_rfl
theorem laidOut : laidOutB Try.prog = true := by kernel_rfl
set_option maxRecDepth 100000 in
theorem lifted (os : Os) (started : os.Started) (H : Type) (enc : TypeId × Value → H) :
    ReturnsInHanded {} Try.checked os 4 .any (Rows.sketchCountsSpec.pre6 enc Try.prog Try.f4 Rows.sketchCountsRow.domain false) (Rows.sketchCountsSpec.post enc Try.prog Try.f4 false true false false) := by
  refine returnsInHanded_of_change (C := Try.checked) own started (by kernel_rfl) Try.func4
    (ChangeSpec.witness6 (enc := enc) (C := Try.checked) false ⟨#[], #[.int .u8 0, .slice none 0 0, .int .u8 0], []⟩ 8 (by kernel_rfl) (by kernel_rfl) (by kernel_rfl) (by kernel_rfl)) ?_
  intro W base args ds gs before hval0 hW hcnd _
  have hval : ∀ (j : Nat) t v, Try.f4.params[j]? = some t → args[j]? = some v → Value.okWide Try.prog W .any base t v := hval0
  have hW' := hW
  obtain ⟨p, q, hA0, hV, rfl, hfz, hnd⟩ := hW
  have hA : DataW.TrodAll enc Try.prog W 0 (fun _ => true) true Try.f4.params.toList args.toList ds p := hA0
  rw [Try.params4] at hA hval
  obtain ⟨v0, vs0, d0, ds0, p0, q0, hargs, rfl, rfl, h0, r0⟩ := trodAll_cons hA
  obtain ⟨v1, vs1, d1, ds1, p1, q1, rfl, rfl, rfl, h1, r1⟩ := trodAll_cons r0
  obtain ⟨v2, vs2, d2, ds2, p2, q2, rfl, rfl, rfl, h2, r2⟩ := trodAll_cons r1
  obtain ⟨rfl, rfl, rfl⟩ := trodAll_nil r2
  obtain rfl : args = #[v0, v1, v2] := by cases args; simp_all
  obtain ⟨rfl, rfl⟩ := trodVars_none hV
  have k0 := h0
  have lt0 : ∀ x ∈ p0, x.block < W.heap.size := by obtain ⟨m, hm⟩ := k0; exact DataW.trod_lt m _ _ _ hm
  have k1 := h1
  have lt1 : ∀ x ∈ p1, x.block < W.heap.size := by obtain ⟨m, hm⟩ := k1; exact DataW.trod_lt m _ _ _ hm
  have k2 := h2
  have lt2 : ∀ x ∈ p2, x.block < W.heap.size := by obtain ⟨m, hm⟩ := k2; exact DataW.trod_lt m _ _ _ hm
  obtain ⟨a0, rfl, e0, _, w0⟩ := open_int Try.underlying5 (hval 0 5 v0 rfl rfl) h0
  obtain ⟨a1, len1, cap1, rfl⟩ := okWide_slice Try.underlying26 (hval 1 26 v1 rfl rfl)
  obtain ⟨z1, w1⟩ : ∃ zs, IsRow .u8 W a1 len1 cap1 zs := by
    obtain ⟨fuel, hf⟩ := h1
    rcases open_ints Try.underlying26 Try.underlying5 (by kernel_rfl) hf with ⟨hcs, _⟩ | ⟨x, l, c, zs, hcs, _, hl, hm, hz, _, hcell, hwz⟩
    · simp [Value.cells] at hcs
      obtain ⟨rfl, rfl, rfl⟩ := hcs
      exact ⟨[], .inl ⟨rfl, rfl, rfl, rfl⟩⟩
    · simp [Value.cells] at hcs
      obtain ⟨rfl, rfl, rfl⟩ := hcs
      exact ⟨zs, .inr ⟨_, rfl, hl, hm, by simpa using hz, hcell, hwz⟩⟩
  obtain ⟨a2, rfl, e2, _, w2⟩ := open_int Try.underlying5 (hval 2 5 v2 rfl rfl) h2
  clear hA0 hval0
  refine (walk a0 a1 len1 cap1 z1 a2 W w0 w1 w2).mono fun e W' ⟨he, bel⟩ => ?_
  subst he
  exact ⟨_, rfl, _, _, _, [], _, [], hW', trodAll_mk1 (shut_bool Try.underlying4 _), (trodAll_cons_mk (Below.trod laidOut (by kernel_rfl) (of_decide_eq_true (by kernel_rfl)) k0 bel lt0) (trodAll_cons_mk (Below.trod laidOut (by kernel_rfl) (of_decide_eq_true (by kernel_rfl)) k1 bel lt1) (trodAll_cons_mk (Below.trod laidOut (by kernel_rfl) (of_decide_eq_true (by kernel_rfl)) k2 bel lt2) trodAll_mk0))), rfl, bel.frame _, fun h => by cases h⟩

theorem over : Rows.sketchCountsRow.holds Try.pinned (OpenSpec.ofChange Rows.sketchCountsSpec) :=
  OpenClaim.holds_of_wide 4 Try.f4 rfl rfl rfl rfl rfl rfl rfl ⟨rfl, rfl, rfl, rfl, rfl⟩ rfl rfl rfl rfl rfl (by kernel_rfl) Try.func4 (by kernel_rfl)
    (of_decide_eq_true (by kernel_rfl)) (by unfold Func.isWrapper; first | (rw [if_pos (by decide +kernel)]; kernel_rfl) | (rw [if_neg (by decide +kernel)]; exact ⟨rfl, rfl⟩))
    (fun os started H enc _ => lifted os started H enc)

/-- The statement. -/
theorem proved : Rows.SketchCountsSaid := over
#print axioms proved
end Go.Proofs.Ytkcnnkbfnelfjaa.sketchCounts
