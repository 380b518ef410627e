/- It is proved that SketchAdmits returns true for every input, and leaves its arguments as they were; there is no condition. -/
import Derived.Test.YtkcnnkbfnelfjaaArgs
import Derived.Deep.RegionHeld3
import Derived.WalkKit
import Derived.ProofKit
import Derived.OpenShut
import Derived.ShutString
import Derived.ChangeOld
import Derived.Below
namespace Go.Proofs.Ytkcnnkbfnelfjaa.sketchAdmits
open Go.ChangeShapes Go.WideShapes Go.ChangeAt Go.RowKit
open Go.ChangeMaps (open_string shut_string)
set_option linter.unusedVariables false

open Sk
theorem walk_big (a0 : Int) (a1 : Option Addr) (len1 cap1 : Nat) (x y : Int) (w : World) (w1 : len1 ≤ maxLen) (hl : ¬ len1 ≤ 300) :
    Calls Try.prog 7 #[.int .u8 a0, .slice a1 len1 cap1, .agg #[.int .u8 x, .int .u8 y]] w fun e w' => e = .returned (.bool true) ∧ Below w.heap.size w w' := by
  unfold maxLen at w1
  go_enter Try.func7, Try.ntmps7
  go_wp2_with fail
  refine (awake_any _).mono ?_
  rintro e w1 ⟨rfl, hb1⟩
  go_wp2_with fail
  refine (awake_any _).mono ?_
  rintro e w2 ⟨rfl, hb2⟩
  go_wp2_with fail
  go_ret
  exact ⟨rfl, (((Below.refl _ _).alloc (Nat.le_refl _) _).trans (hb1.mono (by simp))).trans (hb2.mono (by have := hb1.size; simp at this; omega))⟩
/-- What the region that makes the two keys reads. -/
def SK (wr : World) (x y : Int) (b : Nat) (w' : World) : Prop := Blk w' b 48 #[.int .u8 x, .int .u8 y] ∧ Below wr.heap.size wr w' ∧ w'.cell? ⟨b, 0, none⟩ = some (.int .u8 x) ∧ w'.cell? ⟨b, 1, none⟩ = some (.int .u8 y)
theorem SK.mk' {wr w' : World} {x y : Int} {b : Nat} (h : Blk w' b 48 #[.int .u8 x, .int .u8 y]) (hb : Below wr.heap.size wr w') : SK wr x y b w' := ⟨h, hb, by rw [h.cell]; rfl, by rw [h.cell]; rfl⟩
theorem SK.below {wr w w' : World} {x y : Int} {b : Nat} (hb : Below w.heap.size w w') (h : SK wr x y b w) : SK wr x y b w' :=
  SK.mk' ((hb.block _ h.1.lt).trans h.1) (h.2.1.trans (hb.mono h.2.1.size))
set_option maxHeartbeats 1000000 in
theorem walk (a0 : Int) (a1 : Option Addr) (len1 cap1 : Nat) (z1 : List Int) (x2_0 x2_1 : Int) (w : World) (w0 : (Lit.int .u8 a0).wf = true) (w1 : IsRow .u8 w a1 len1 cap1 z1) (w2_0 : (Lit.int .u8 x2_0).wf = true) (w2_1 : (Lit.int .u8 x2_1).wf = true) :
    Calls Try.prog 7 #[.int .u8 a0, .slice a1 len1 cap1, .agg #[.int .u8 x2_0, .int .u8 x2_1]] w fun e w' => e = .returned (.bool true) ∧ Below w.heap.size w w' := by
  have b0 := Go.bounds_u8 w0
  have bx := Go.bounds_u8 w2_0
  have by' := Go.bounds_u8 w2_1
  by_cases hl : len1 ≤ 300
  case neg => exact walk_big a0 a1 len1 cap1 _ _ w w1.len_le hl
  have hw := wid_mem a0.toNat
  go_enter Try.func7, Try.ntmps7
  go_wp2_with fail
  have hB0 : Below w.heap.size w (w.alloc (.cells #[.int .u8 x2_0, .int .u8 x2_1] 48)) := (Below.refl _ _).alloc (Nat.le_refl _) _
  have hx : (w.alloc (.cells #[.int .u8 x2_0, .int .u8 x2_1] 48)).heap[w.heap.size]? = some (.cells #[.int .u8 x2_0, .int .u8 x2_1] 48 (0, 0)) := heap_alloc_new w _
  have hxs : (w.alloc (.cells #[.int .u8 x2_0, .int .u8 x2_1] 48)).heap.size = w.heap.size + 1 := by simp
  generalize w.alloc (.cells #[.int .u8 x2_0, .int .u8 x2_1] 48) = wa at *
  have HS := Lib.hid hxs
  have HX := Lib.hid hx
  clear hxs hx
  refine (awake_any _).mono ?_
  rintro e w1' ⟨rfl, hb1⟩
  go_wp2_with fail
  refine (width_any _ _ b0.1 b0.2).mono ?_
  rintro e w2 ⟨rfl, rfl⟩
  go_wp2_with fail
  refine (new_16 _ _ hw).mono ?_
  rintro e w2 ⟨rfl, hsk, hb2⟩
  have hz1 := hb1.size
  have hB2 : Below wa.heap.size wa w2 := hb1.trans (hb2.mono hz1)
  clear hb1 hb2
  generalize w1'.heap.size = B0 at *
  have hAB := w1.len_le
  unfold maxLen at hAB
  go_wp2_with fail
  go_loopw [10, 31] (fun _ i wr => ∃ (n : Nat) (s : S), n ≤ len1 ∧ i = .int .i64 n ∧ s.added = n ∧ IsSk wr B0 (B0 + 6) (B0 + 1) (newB B0) s ∧ Below wa.heap.size wa wr) (fun _ i _ => len1 - (intOf i).toNat)
  case atStart => exact ⟨0, _, by omega, rfl, rfl, hsk, hB2⟩
  case round =>
    rename_i v1 v2
    obtain ⟨n, s, hn, rfl, had, hsk', hb⟩ := hrel
    have HA := Lib.hid had
    clear had
    by_cases hlt : n < len1
    · obtain ⟨b, off, rfl, hc, h0, h1, hbl⟩ := w1.get n hlt
      have hc' : wr.cell? ⟨b, off + n, none⟩ = some (.int .u8 (z1.getD n 0)) := by
        rw [hb.cell (p := ⟨b, off + n, none⟩) (by show b < wa.heap.size; rw [HS.out]; omega), hB0.cell (p := ⟨b, off + n, none⟩) hbl]; exact hc
      clear hc
      generalize z1.getD n 0 = q at *
      go_wp2_with fail
      refine (key_any _ _ h0 h1).mono ?_
      rintro e w3 ⟨rfl, hb3⟩
      go_wp2_with fail
      refine (add_any (keyS q.toNat) _ (hsk'.below hb3 hsk'.hs) (keyS_size _) (by rw [HA.out]; omega)).mono ?_
      rintro e w4 ⟨rfl, hsk4, hin⟩
      have hb4 : Below wa.heap.size wa w4 := (hb.trans (hb3.mono hb.size)).trans ((hin.below (by have := hsk'.hs; have := hb3.size; omega)).mono hz1)
      go_wp2_with fail
      go_roundw
      case rel => exact ⟨n + 1, _, by omega, by go_num, by rw [add_added, HA.out], hsk4, hb4⟩
      case measure => simp [intOf]; omega
    · have HK : Blk wr w.heap.size 48 #[.int .u8 x2_0, .int .u8 x2_1] := (hb.block _ (by rw [HS.out]; omega)).trans HX.out
      have k0 := HK.cell 0
      have k1 := HK.cell 1
      simp only [List.getElem?_toArray, List.getElem?_cons_zero, List.getElem?_cons_succ] at k0 k1
      go_upto_region 11 with (fail)
      have L : SK wr x2_0 x2_1 w.heap.size wr := SK.mk' HK (Below.refl _ _)
      go_region_held3 (fun w' => Blk w' w.heap.size 48 #[.int .u8 x2_0, .int .u8 x2_1] ∧ Below wr.heap.size wr w' ∧ w'.cell? ⟨w.heap.size, 0, none⟩ = some (.int .u8 x2_0) ∧ w'.cell? ⟨w.heap.size, 1, none⟩ = some (.int .u8 x2_1))
        (first | exact L | exact SK.below (Below.refl _ _).drew L | exact SK.below (by assumption) (by assumption))
        (first | (go_at_call 17; refine (key_any _ _ (by omega) (by omega)).mono ?_; rintro e w3 ⟨rfl, hb3⟩))
      have hH : SK wr x2_0 x2_1 w.heap.size w3 := by assumption
      have hs3 := hsk'.below hH.2.1 hsk'.hs
      have hb5 : Below w.heap.size w w3 := hB0.trans ((hb.trans (hH.2.1.mono hb.size)).mono hB0.size)
      have Haa := fun m => admit_any (keyS x2_0.toNat) (keyS x2_0.toNat) (w3.drewN m) (hs3.drewN m) (keyS_size _) (keyS_size _)
      have Hab := fun m => admit_any (keyS x2_0.toNat) (keyS x2_1.toNat) (w3.drewN m) (hs3.drewN m) (keyS_size _) (keyS_size _)
      have Hba := fun m => admit_any (keyS x2_1.toNat) (keyS x2_0.toNat) (w3.drewN m) (hs3.drewN m) (keyS_size _) (keyS_size _)
      have Hea := fun m => est_any (keyS x2_0.toNat) (w3.drewN m) (hs3.drewN m) (keyS_size _)
      have Heb := fun m => est_any (keyS x2_1.toNat) (w3.drewN m) (hs3.drewN m) (keyS_size _)
      have Hab0 := Hab 0
      generalize est s (keyS x2_0.toNat).data.toList = X at *
      generalize est s (keyS x2_1.toNat).data.toList = Y at *
      have haa : decide (X < X) = false := by simp
      rw [haa] at Haa
      obtain ⟨p, q, hp, hq, hpq, hint⟩ : ∃ p q, decide (Y < X) = p ∧ decide (X < Y) = q ∧ (p && q) = false ∧ decide ((Y : Int) < (X : Int)) = p := ⟨_, _, rfl, rfl, by simp; omega, by simp⟩
      simp only [hp] at Hab Hab0
      simp only [hq] at Hba
      clear hq haa L k0 k1
      rcases p with _ | _ <;> rcases q with _ | _
      case true.true => cases hpq
      all_goals
        clear hpq
        have Haa' := Lib.hid Haa
        have Hab' := Lib.hid Hab
        have Hba' := Lib.hid Hba
        have Hea' := Lib.hid Hea
        have Heb' := Lib.hid Heb
        clear Haa Hab Hba Hea Heb
        go_wp2_with fail
        refine Hab0.mono ?_
        rintro e w4 ⟨rfl, m1, rfl⟩
        clear Hab0
        go_wp2_with fail
        refine (Hea'.out _).mono ?_
        rintro e w4 ⟨rfl, m2, rfl⟩
        go_wp2_with fail
        refine (Heb'.out _).mono ?_
        rintro e w4 ⟨rfl, m3, rfl⟩
        go_wp2_with fail
        refine (Haa'.out _).mono ?_
        rintro e w4 ⟨rfl, m4, rfl⟩
        go_wp2_with fail
        refine (Hab'.out _).mono ?_
        rintro e w4 ⟨rfl, m5, rfl⟩
        go_wp2_with (refine (Hba'.out _).mono ?_; rintro e w4 ⟨rfl, m6, rfl⟩)
        go_ret
        exact ⟨rfl, below_drewN hb5 _⟩


theorem own : ownKnob Try.prog.godebug = none := by kernel_rfl
theorem laidOut : laidOutB Try.prog = true := by kernel_rfl
set_option maxRecDepth 100000 in
theorem lifted (os : Os) (started : os.Started) (H : Type) (enc : TypeId × Value → H) :
    ReturnsInHanded {} Try.checked os 7 .any (Rows.sketchAdmitsSpec.pre6 enc Try.prog Try.f7 Rows.sketchAdmitsRow.domain false) (Rows.sketchAdmitsSpec.post enc Try.prog Try.f7 false true false false) := by
  refine returnsInHanded_of_change (C := Try.checked) own started (by kernel_rfl) Try.func7
    (ChangeSpec.witness6 (enc := enc) (C := Try.checked) false ⟨#[], #[.int .u8 0, .slice none 0 0, .agg #[.int .u8 0, .int .u8 0]], []⟩ 8 (by kernel_rfl) (by kernel_rfl) (by kernel_rfl) (by kernel_rfl)) ?_
  intro W base args ds gs before hval0 hW hcnd _
  have hval : ∀ (j : Nat) t v, Try.f7.params[j]? = some t → args[j]? = some v → Value.okWide Try.prog W .any base t v := hval0
  have hW' := hW
  obtain ⟨p, q, hA0, hV, rfl, hfz, hnd⟩ := hW
  have hA : DataW.TrodAll enc Try.prog W 0 (fun _ => true) true Try.f7.params.toList args.toList ds p := hA0
  rw [Try.params7] at hA hval
  obtain ⟨v0, vs0, d0, ds0, p0, q0, hargs, rfl, rfl, h0, r0⟩ := trodAll_cons hA
  obtain ⟨v1, vs1, d1, ds1, p1, q1, rfl, rfl, rfl, h1, r1⟩ := trodAll_cons r0
  obtain ⟨v2, vs2, d2, ds2, p2, q2, rfl, rfl, rfl, h2, r2⟩ := trodAll_cons r1
  obtain ⟨rfl, rfl, rfl⟩ := trodAll_nil r2
  obtain rfl : args = #[v0, v1, v2] := by cases args; simp_all
  obtain ⟨rfl, rfl⟩ := trodVars_none hV
  have k0 := h0
  have lt0 : ∀ x ∈ p0, x.block < W.heap.size := by obtain ⟨m, hm⟩ := k0; exact DataW.trod_lt m _ _ _ hm
  have k1 := h1
  have lt1 : ∀ x ∈ p1, x.block < W.heap.size := by obtain ⟨m, hm⟩ := k1; exact DataW.trod_lt m _ _ _ hm
  have k2 := h2
  have lt2 : ∀ x ∈ p2, x.block < W.heap.size := by obtain ⟨m, hm⟩ := k2; exact DataW.trod_lt m _ _ _ hm
  obtain ⟨a0, rfl, e0, _, w0⟩ := open_int Try.underlying5 (hval 0 5 v0 rfl rfl) h0
  obtain ⟨a1, len1, cap1, rfl⟩ := okWide_slice Try.underlying26 (hval 1 26 v1 rfl rfl)
  obtain ⟨z1, w1⟩ : ∃ zs, IsRow .u8 W a1 len1 cap1 zs := by
    obtain ⟨fuel, hf⟩ := h1
    rcases open_ints Try.underlying26 Try.underlying5 (by kernel_rfl) hf with ⟨hcs, _⟩ | ⟨x, l, c, zs, hcs, _, hl, hm, hz, _, hcell, hwz⟩
    · simp [Value.cells] at hcs
      obtain ⟨rfl, rfl, rfl⟩ := hcs
      exact ⟨[], .inl ⟨rfl, rfl, rfl, rfl⟩⟩
    · simp [Value.cells] at hcs
      obtain ⟨rfl, rfl, rfl⟩ := hcs
      exact ⟨zs, .inr ⟨_, rfl, hl, hm, by simpa using hz, hcell, hwz⟩⟩
  obtain ⟨x2_0, x2_1, rfl, w2_0, w2_1⟩ := open_arr2 Try.underlying48 Try.underlying5 (by kernel_rfl) (by kernel_rfl) (hval 2 48 v2 rfl rfl) h2
  clear hA0 hval0
  refine (walk a0 a1 len1 cap1 z1 x2_0 x2_1 W w0 w1 w2_0 w2_1).mono fun e W' ⟨he, bel⟩ => ?_
  subst he
  exact ⟨_, rfl, _, _, _, [], _, [], hW', trodAll_mk1 (shut_bool Try.underlying4 _), (trodAll_cons_mk (Below.trod laidOut (by kernel_rfl) (of_decide_eq_true (by kernel_rfl)) k0 bel lt0) (trodAll_cons_mk (Below.trod laidOut (by kernel_rfl) (of_decide_eq_true (by kernel_rfl)) k1 bel lt1) (trodAll_cons_mk (Below.trod laidOut (by kernel_rfl) (of_decide_eq_true (by kernel_rfl)) k2 bel lt2) trodAll_mk0))), rfl, bel.frame _, fun h => by cases h⟩

theorem over : Rows.sketchAdmitsRow.holds Try.pinned (OpenSpec.ofChange Rows.sketchAdmitsSpec) :=
  OpenClaim.holds_of_wide 7 Try.f7 rfl rfl rfl rfl rfl rfl rfl ⟨rfl, rfl, rfl, rfl, rfl⟩ rfl rfl rfl rfl rfl (by kernel_rfl) Try.func7 (by kernel_rfl)
    (of_decide_eq_true (by kernel_rfl)) (by unfold Func.isWrapper; first | (rw [if_pos (by decide +kernel)]; kernel_rfl) | (rw [if_neg (by decide +kernel)]; exact ⟨rfl, rfl⟩))
    (fun os started H enc _ => lifted os started H enc)

/-- The statement. -/
theorem proved : Rows.SketchAdmitsSaid := over
#print axioms proved
end Go.Proofs.Ytkcnnkbfnelfjaa.sketchAdmits
