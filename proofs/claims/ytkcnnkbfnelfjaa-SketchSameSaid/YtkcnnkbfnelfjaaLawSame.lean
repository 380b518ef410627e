/- It is proved that SketchSame returns true for every input, and leaves its arguments as they were; there is no condition. -/
import Derived.Test.YtkcnnkbfnelfjaaArgs
import Derived.WalkKit
import Derived.ProofKit
import Derived.OpenShut
import Derived.ShutString
import Derived.ChangeOld
import Derived.Below
namespace Go.Proofs.Ytkcnnkbfnelfjaa.sketchSame
open Go.ChangeShapes Go.WideShapes Go.ChangeAt Go.RowKit
open Go.ChangeMaps (open_string shut_string)
set_option linter.unusedVariables false

open Sk
theorem walk_big (a0 : Int) (a1 : Option Addr) (len1 cap1 : Nat) (v2 : Value) (w : World) (w1 : len1 ≤ maxLen) (hl : ¬ len1 ≤ 300) :
    Calls Try.prog 9 #[.int .u8 a0, .slice a1 len1 cap1, v2] w fun e w' => e = .returned (.bool true) ∧ Below w.heap.size w w' := by
  unfold maxLen at w1
  go_enter Try.func9, Try.ntmps9
  go_wp2_with fail
  refine (awake_any _).mono ?_
  rintro e w1 ⟨rfl, hb1⟩
  go_wp2_with fail
  refine (awake_any _).mono ?_
  rintro e w2 ⟨rfl, hb2⟩
  go_wp2_with fail
  go_ret
  exact ⟨rfl, hb1.trans (hb2.mono hb1.size)⟩
/-- Two sketches of one state. -/
structure Twin (w : World) (A B : Nat) (s : S) : Prop where
  a : IsSk w A (A + 6) (A + 1) (newB A) s
  b : IsSk w B (B + 6) (B + 1) (newB B) s
  o : A + 6 ≤ B
theorem Twin.below {w w' : World} {A B : Nat} {s : S} (h : Twin w A B s) (hb : Below w.heap.size w w') : Twin w' A B s := ⟨h.a.below hb h.a.hs, h.b.below hb h.b.hs, h.o⟩
theorem Twin.drewN {w : World} {A B : Nat} {s : S} (h : Twin w A B s) (n : Nat) : Twin (w.drewN n) A B s := ⟨h.a.drewN n, h.b.drewN n, h.o⟩
set_option maxHeartbeats 1000000 in
theorem walk (a0 : Int) (a1 : Option Addr) (len1 cap1 : Nat) (z1 : List Int) (a2 : Option Addr) (len2 cap2 : Nat) (z2 : List Int) (w : World) (w0 : (Lit.int .u8 a0).wf = true) (w1 : IsRow .u8 w a1 len1 cap1 z1) (w2 : IsRow .u8 w a2 len2 cap2 z2) :
    Calls Try.prog 9 #[.int .u8 a0, .slice a1 len1 cap1, .slice a2 len2 cap2] w fun e w' => e = .returned (.bool true) ∧ Below w.heap.size w w' := by
  have b0 := Go.bounds_u8 w0
  by_cases hl : len1 ≤ 300
  case neg => exact walk_big a0 a1 len1 cap1 _ w w1.len_le hl
  have hw := wid_mem a0.toNat
  have hAB := w1.len_le
  have hAB2 := w2.len_le
  unfold maxLen at hAB hAB2
  go_enter Try.func9, Try.ntmps9
  go_wp2_with fail
  refine (awake_any _).mono ?_
  rintro e w1' ⟨rfl, hb1⟩
  go_wp2_with fail
  refine (width_any _ _ b0.1 b0.2).mono ?_
  rintro e w3 ⟨rfl, rfl⟩
  go_wp2_with fail
  refine (new_16 _ _ hw).mono ?_
  rintro e w3 ⟨rfl, hsk, hb2⟩
  have hz1 := hb1.size
  have hB2 : Below w.heap.size w w3 := hb1.trans (hb2.mono hz1)
  clear hb1 hb2
  generalize w1'.heap.size = A at *
  go_wp2_with fail
  refine (width_any _ _ b0.1 b0.2).mono ?_
  rintro e w4 ⟨rfl, rfl⟩
  go_wp2_with fail
  refine (new_16 _ _ hw).mono ?_
  rintro e w4 ⟨rfl, hsk2, hb3⟩
  have hT : Twin w4 A w3.heap.size (Sk.new (wid a0.toNat)) := ⟨hsk.below hb3 hsk.hs, hsk2, hsk.hs⟩
  have hz2 := hB2.size
  have hB3 := hB2.trans (hb3.mono hz2)
  clear hB2 hb3 hsk hsk2
  generalize w3.heap.size = B at *
  go_wp2_with fail
  go_loopw [11, 12, 42] (fun _ _ i wr => ∃ (n : Nat) (s : S), n ≤ len1 ∧ i = .int .i64 n ∧ s.added = n ∧ Twin wr A B s ∧ Below w.heap.size w wr) (fun _ _ i _ => len1 - (intOf i).toNat)
  case atStart => exact ⟨0, _, by omega, rfl, rfl, hT, hB3⟩
  case round =>
    rename_i v1 v2 v3
    obtain ⟨n, s, hn, rfl, had, hT', hb⟩ := hrel
    have HA := Lib.hid had
    clear had
    by_cases hlt : n < len1
    · obtain ⟨b, off, rfl, hc, h0, h1, hbl⟩ := w1.get n hlt
      have hc' : wr.cell? ⟨b, off + n, none⟩ = some (.int .u8 (z1.getD n 0)) := by rw [hb.cell (p := ⟨b, off + n, none⟩) hbl]; exact hc
      clear hc
      generalize z1.getD n 0 = q at *
      go_wp2_with fail
      refine (key_any _ _ h0 h1).mono ?_
      rintro e w5 ⟨rfl, hb5⟩
      have hT5 := hT'.below hb5
      have hb5' := hb.trans (hb5.mono hb.size)
      clear hb5
      go_wp2_with fail
      refine (add_any (keyS q.toNat) _ hT5.a (keyS_size _) (by rw [HA.out]; omega)).mono ?_
      rintro e w6 ⟨rfl, hsk6, hin⟩
      have hB6 := hT5.b.ins hin (.inr hT5.o)
      have hb6' := hb5'.trans ((hin.below (by have := hT5.a.hs; omega)).mono hz1)
      clear hin hT5 hb5'
      go_wp2_with fail
      refine (key_any _ _ h0 h1).mono ?_
      rintro e w7 ⟨rfl, hb7⟩
      have hA7 := hsk6.below hb7 hsk6.hs
      have hB7 := hB6.below hb7 hB6.hs
      have hb7' := hb6'.trans (hb7.mono hb6'.size)
      clear hb7 hsk6 hB6 hb6'
      go_wp2_with fail
      refine (add_any (keyS q.toNat) _ hB7 (keyS_size _) (by rw [HA.out]; omega)).mono ?_
      rintro e w8 ⟨rfl, hB8, hin⟩
      have hT8 : Twin w8 A B (add s (keyS q.toNat).data.toList) := ⟨hA7.ins hin (.inl hT'.o), hB8, hT'.o⟩
      have hb8' := hb7'.trans ((hin.below (by have := hB7.hs; omega)).mono hz2)
      clear hin hA7 hB7 hb7' hB8
      have HA8 : Hid ((add s (keyS q.toNat).data.toList).added = n + 1) := Lib.hid (by rw [add_added, HA.out])
      generalize add s (keyS q.toNat).data.toList = s8 at *
      clear hT' hb
      by_cases hlt2 : n < len2
      · obtain ⟨b2, off2, rfl, hc2, g0, g1, hbl2⟩ := w2.get n hlt2
        have hc2' : w8.cell? ⟨b2, off2 + n, none⟩ = some (.int .u8 (z2.getD n 0)) := by rw [hb8'.cell (p := ⟨b2, off2 + n, none⟩) hbl2]; exact hc2
        have Hc2 := Lib.hid hc2
        clear hc2 hc'
        generalize z2.getD n 0 = q2 at *
        go_wp2_with fail
        refine (key_any _ _ g0 g1).mono ?_
        rintro e w9 ⟨rfl, hb9⟩
        have hT9 := hT8.below hb9
        have hb9' := hb8'.trans (hb9.mono hb8'.size)
        clear hb9 hT8 hb8' hc2'
        go_wp2_with fail
        refine (est_any (keyS q2.toNat) _ hT9.b (keyS_size _)).mono ?_
        rintro e w10 ⟨rfl, m1, rfl⟩
        have hT10 := hT9.drewN m1
        have hb10' := below_drewN hb9' m1
        clear hT9 hb9'
        generalize w9.drewN m1 = w10 at *
        have hc2' : w10.cell? ⟨b2, off2 + n, none⟩ = some (.int .u8 q2) := by rw [hb10'.cell (p := ⟨b2, off2 + n, none⟩) hbl2]; exact Hc2.out
        go_wp2_with fail
        refine (key_any _ _ g0 g1).mono ?_
        rintro e w11 ⟨rfl, hb11⟩
        have hT11 := hT10.below hb11
        have hb11' := hb10'.trans (hb11.mono hb10'.size)
        clear hb11 hT10 hb10' hc2'
        go_wp2_with fail
        refine (key_any _ _ h0 h1).mono ?_
        rintro e w12 ⟨rfl, hb12⟩
        have hT12 := hT11.below hb12
        have hb12' := hb11'.trans (hb12.mono hb11'.size)
        clear hb12 hT11 hb11'
        go_wp2_with fail
        refine (admit_any (keyS q2.toNat) (keyS q.toNat) _ hT12.b (keyS_size _) (keyS_size _)).mono ?_
        rintro e w13 ⟨rfl, m2, rfl⟩
        have hT13 := hT12.drewN m2
        have hb13' := below_drewN hb12' m2
        clear hT12 hb12'
        go_wp2_with fail
        go_roundw
        case rel => exact ⟨n + 1, s8, by omega, by go_num, HA8.out, hT13, hb13'⟩
        case measure => simp [intOf]; omega
      · go_wp2_with fail
        go_roundw
        case rel => exact ⟨n + 1, s8, by omega, by go_num, HA8.out, hT8, hb8'⟩
        case measure => simp [intOf]; omega
    · clear hT hB3 w1 w2 HA
      go_wp2_with fail
      go_loopw [13, 76] (fun _ i wr => ∃ n : Nat, n ≤ 40 ∧ i = .int .i64 n ∧ Twin wr A B s ∧ Below w.heap.size w wr) (fun _ i _ => 40 - (intOf i).toNat)
      case atStart => exact ⟨0, by omega, rfl, hT', hb⟩
      case round =>
        rename_i v4 v5
        clear hT' hb
        obtain ⟨m, hm, rfl, hT, hb⟩ := hrel
        by_cases hlt2 : m < 40
        · go_wp2_with fail
          refine (key_any _ _ (by omega) (by omega)).mono ?_
          rintro e w5 ⟨rfl, hb5⟩
          rw [Int.toNat_natCast]
          have hT5 := hT.below hb5
          have hb5' := hb.trans (hb5.mono hb.size)
          clear hb5 hT hb
          go_wp2_with fail
          refine (est_any (keyS m) _ hT5.a (keyS_size _)).mono ?_
          rintro e w6 ⟨rfl, m1, rfl⟩
          have hT6 := hT5.drewN m1
          have hb6' := below_drewN hb5' m1
          clear hT5 hb5'
          generalize w5.drewN m1 = w6 at *
          go_wp2_with fail
          refine (key_any _ _ (by omega) (by omega)).mono ?_
          rintro e w7 ⟨rfl, hb7⟩
          rw [Int.toNat_natCast]
          have hT7 := hT6.below hb7
          have hb7' := hb6'.trans (hb7.mono hb6'.size)
          clear hb7 hT6 hb6'
          go_wp2_with fail
          refine (est_any (keyS m) _ hT7.b (keyS_size _)).mono ?_
          rintro e w8 ⟨rfl, m2, rfl⟩
          have hT8 := hT7.drewN m2
          have hb8' := below_drewN hb7' m2
          clear hT7 hb7'
          generalize est s (keyS m).data.toList = X at *
          go_wp2_with fail
          go_roundw
          case rel => exact ⟨m + 1, by omega, by go_num, hT8, hb8'⟩
          case measure => simp [intOf]; omega
        · go_wp2_with fail
          go_ret
          exact ⟨rfl, hb⟩


theorem own : ownKnob Try.prog.godebug = none := by kernel_rfl
theorem laidOut : laidOutB Try.prog = true := by kernel_rfl
set_option maxRecDepth 100000 in
theorem lifted (os : Os) (started : os.Started) (H : Type) (enc : TypeId × Value → H) :
    ReturnsInHanded {} Try.checked os 9 .any (Rows.sketchSameSpec.pre6 enc Try.prog Try.f9 Rows.sketchSameRow.domain false) (Rows.sketchSameSpec.post enc Try.prog Try.f9 false true false false) := by
  refine returnsInHanded_of_change (C := Try.checked) own started (by kernel_rfl) Try.func9
    (ChangeSpec.witness6 (enc := enc) (C := Try.checked) false ⟨#[], #[.int .u8 0, .slice none 0 0, .slice none 0 0], []⟩ 8 (by kernel_rfl) (by kernel_rfl) (by kernel_rfl) (by kernel_rfl)) ?_
  intro W base args ds gs before hval0 hW hcnd _
  have hval : ∀ (j : Nat) t v, Try.f9.params[j]? = some t → args[j]? = some v → Value.okWide Try.prog W .any base t v := hval0
  have hW' := hW
  obtain ⟨p, q, hA0, hV, rfl, hfz, hnd⟩ := hW
  have hA : DataW.TrodAll enc Try.prog W 0 (fun _ => true) true Try.f9.params.toList args.toList ds p := hA0
  rw [Try.params9] at hA hval
  obtain ⟨v0, vs0, d0, ds0, p0, q0, hargs, rfl, rfl, h0, r0⟩ := trodAll_cons hA
  obtain ⟨v1, vs1, d1, ds1, p1, q1, rfl, rfl, rfl, h1, r1⟩ := trodAll_cons r0
  obtain ⟨v2, vs2, d2, ds2, p2, q2, rfl, rfl, rfl, h2, r2⟩ := trodAll_cons r1
  obtain ⟨rfl, rfl, rfl⟩ := trodAll_nil r2
  obtain rfl : args = #[v0, v1, v2] := by cases args; simp_all
  obtain ⟨rfl, rfl⟩ := trodVars_none hV
  have k0 := h0
  have lt0 : ∀ x ∈ p0, x.block < W.heap.size := by obtain ⟨m, hm⟩ := k0; exact DataW.trod_lt m _ _ _ hm
  have k1 := h1
  have lt1 : ∀ x ∈ p1, x.block < W.heap.size := by obtain ⟨m, hm⟩ := k1; exact DataW.trod_lt m _ _ _ hm
  have k2 := h2
  have lt2 : ∀ x ∈ p2, x.block < W.heap.size := by obtain ⟨m, hm⟩ := k2; exact DataW.trod_lt m _ _ _ hm
  obtain ⟨a0, rfl, e0, _, w0⟩ := open_int Try.underlying5 (hval 0 5 v0 rfl rfl) h0
  obtain ⟨a1, len1, cap1, rfl⟩ := okWide_slice Try.underlying26 (hval 1 26 v1 rfl rfl)
  obtain ⟨z1, w1⟩ : ∃ zs, IsRow .u8 W a1 len1 cap1 zs := by
    obtain ⟨fuel, hf⟩ := h1
    rcases open_ints Try.underlying26 Try.underlying5 (by kernel_rfl) hf with ⟨hcs, _⟩ | ⟨x, l, c, zs, hcs, _, hl, hm, hz, _, hcell, hwz⟩
    · simp [Value.cells] at hcs
      obtain ⟨rfl, rfl, rfl⟩ := hcs
      exact ⟨[], .inl ⟨rfl, rfl, rfl, rfl⟩⟩
    · simp [Value.cells] at hcs
      obtain ⟨rfl, rfl, rfl⟩ := hcs
      exact ⟨zs, .inr ⟨_, rfl, hl, hm, by simpa using hz, hcell, hwz⟩⟩
  obtain ⟨a2, len2, cap2, rfl⟩ := okWide_slice Try.underlying26 (hval 2 26 v2 rfl rfl)
  obtain ⟨z2, w2⟩ : ∃ zs, IsRow .u8 W a2 len2 cap2 zs := by
    obtain ⟨fuel, hf⟩ := h2
    rcases open_ints Try.underlying26 Try.underlying5 (by kernel_rfl) hf with ⟨hcs, _⟩ | ⟨x, l, c, zs, hcs, _, hl, hm, hz, _, hcell, hwz⟩
    · simp [Value.cells] at hcs
      obtain ⟨rfl, rfl, rfl⟩ := hcs
      exact ⟨[], .inl ⟨rfl, rfl, rfl, rfl⟩⟩
    · simp [Value.cells] at hcs
      obtain ⟨rfl, rfl, rfl⟩ := hcs
      exact ⟨zs, .inr ⟨_, rfl, hl, hm, by simpa using hz, hcell, hwz⟩⟩
  clear hA0 hval0
  refine (walk a0 a1 len1 cap1 z1 a2 len2 cap2 z2 W w0 w1 w2).mono fun e W' ⟨he, bel⟩ => ?_
  subst he
  exact ⟨_, rfl, _, _, _, [], _, [], hW', trodAll_mk1 (shut_bool Try.underlying4 _), (trodAll_cons_mk (Below.trod laidOut (by kernel_rfl) (of_decide_eq_true (by kernel_rfl)) k0 bel lt0) (trodAll_cons_mk (Below.trod laidOut (by kernel_rfl) (of_decide_eq_true (by kernel_rfl)) k1 bel lt1) (trodAll_cons_mk (Below.trod laidOut (by kernel_rfl) (of_decide_eq_true (by kernel_rfl)) k2 bel lt2) trodAll_mk0))), rfl, bel.frame _, fun h => by cases h⟩

theorem over : Rows.sketchSameRow.holds Try.pinned (OpenSpec.ofChange Rows.sketchSameSpec) :=
  OpenClaim.holds_of_wide 9 Try.f9 rfl rfl rfl rfl rfl rfl rfl ⟨rfl, rfl, rfl, rfl, rfl⟩ rfl rfl rfl rfl rfl (by kernel_rfl) Try.func9 (by kernel_rfl)
    (of_decide_eq_true (by kernel_rfl)) (by unfold Func.isWrapper; first | (rw [if_pos (by decide +kernel)]; kernel_rfl) | (rw [if_neg (by decide +kernel)]; exact ⟨rfl, rfl⟩))
    (fun os started H enc _ => lifted os started H enc)

/-- The statement. -/
theorem proved : Rows.SketchSameSaid := over
#print axioms proved
end Go.Proofs.Ytkcnnkbfnelfjaa.sketchSame
