/- It is proved that SketchForms returns true for every width and every string, and leaves its arguments as they were; there is no condition. -/
import Derived.Test.YtkcnnkbfnelfjaaForms
import Derived.WalkKit
import Derived.ProofKit
import Derived.OpenShut
import Derived.ShutString
import Derived.ChangeOld
import Derived.Below
namespace Go.Proofs.Ytkcnnkbfnelfjaa.sketchForms
open Go.ChangeShapes Go.WideShapes Go.ChangeAt Go.RowKit
open Go.ChangeMaps (open_string shut_string)
set_option linter.unusedVariables false

open Sk
theorem walk_big (a0 : Int) (a1 : ByteArray) (w : World) (w1 : a1.size ≤ maxLen) (hl : ¬ a1.size ≤ 1000) :
    Calls Try.prog 8 #[.int .i64 a0, .string a1] w fun e w' => e = .returned (.bool true) ∧ Below w.heap.size w w' := by
  unfold maxLen at w1
  go_enter Try.func8, Try.ntmps8
  go_wp2_with fail
  refine (awake_any _).mono ?_
  rintro e w1 ⟨rfl, hb1⟩
  go_wp2_with fail
  refine (awake_any _).mono ?_
  rintro e w2 ⟨rfl, hb2⟩
  go_wp2_with fail
  go_ret
  exact ⟨rfl, hb1.trans (hb2.mono hb1.size)⟩
theorem mul2 (n : Nat) : ((16 * 2 ^ n : Nat) : Int) * 2 = ((16 * 2 ^ (n + 1) : Nat) : Int) := by rw [Nat.pow_succ]; omega
theorem pw (n : Nat) (h : n ≤ 8) : 16 * 2 ^ n ≤ 4096 := by
  have : 2 ^ n ≤ 2 ^ 8 := Nat.pow_le_pow_right (by omega) h
  omega
set_option maxRecDepth 100000 in
set_option maxHeartbeats 1000000 in
theorem walk (a0 : Int) (a1 : ByteArray) (w : World) (w0 : (Lit.int .i64 a0).wf = true) (w1 : a1.size ≤ maxLen) :
    Calls Try.prog 8 #[.int .i64 a0, .string a1] w fun e w' => e = .returned (.bool true) ∧ Below w.heap.size w w' := by
  by_cases hl : a1.size ≤ 1000
  case neg => exact walk_big a0 a1 w w1 hl
  have hsz := w1
  have hs' := w1
  unfold maxLen at hs'
  go_enter Try.func8, Try.ntmps8
  go_wp2_with fail
  refine (awake_any _).mono ?_
  rintro e w1 ⟨rfl, hb1⟩
  go_wp2_with fail
  go_loop [5, 6] (fun o i => ∃ (n p : Nat), n ≤ 9 ∧ p = 16 * 2 ^ n ∧ o = .bool (okTo a0 n) ∧ i = .int .i64 p) (fun _ i => 10000 - (intOf i).toNat)
  case atStart => exact ⟨0, 16, by omega, rfl, rfl, rfl⟩
  case round =>
    obtain ⟨n, p, hn, hp, rfl, rfl⟩ := hrel
    have HP := Lib.hid hp
    by_cases hlt : n < 9
    · have h1 := pw n (by omega)
      have hp1 : p ≤ 4096 := by omega
      have hp2 : 16 ≤ p := by have := Nat.two_pow_pos n; omega
      clear hp h1
      rcases hb : okTo a0 n with _ | _
      all_goals
        have hs := Lib.hid (okTo_succ a0 n)
        have HB := Lib.hid hb
        go_wp2_with fail
        go_round
        case rel => exact ⟨n + 1, p * 2, by omega, by rw [HP.out, Nat.pow_succ]; omega, by rw [hs.out, HB.out]; first | rfl | (rw [HP.out]; simp), by go_num⟩
        case measure => simp [intOf]; omega
    · obtain rfl : n = 9 := by omega
      obtain rfl : p = 8192 := hp
      clear HP
      rcases hb : okTo a0 9 with _ | _
      · go_wp2_with fail
        refine (new_no a0 _ hb).mono ?_
        rintro e w2 ⟨rfl, rfl⟩
        clear hb
        go_wp2_with fail
        refine (is_range _).mono ?_
        rintro e w2 ⟨rfl, rfl⟩
        go_wp2_with fail
        refine (addnil_any _ _).mono ?_
        rintro e w2 ⟨rfl, rfl⟩
        go_wp2_with fail
        refine (estnil_any _ _).mono ?_
        rintro e w2 ⟨rfl, rfl⟩
        go_wp2_with fail
        refine (addednil_any _).mono ?_
        rintro e w2 ⟨rfl, rfl⟩
        go_wp2_with fail
        refine (admitnil_any _ _ _).mono ?_
        rintro e w2 ⟨rfl, rfl⟩
        go_wp2_with fail
        go_ret
        exact ⟨rfl, hb1⟩
      · go_wp2_with fail
        refine (new_yes a0 _ hb).mono ?_
        rintro e w2 ⟨rfl, hsk, hb2⟩
        clear hb
        go_wp2_with fail
        refine (addnil_any _ _).mono ?_
        rintro e w2 ⟨rfl, rfl⟩
        go_wp2_with fail
        refine (estnil_any _ _).mono ?_
        rintro e w2 ⟨rfl, rfl⟩
        go_wp2_with fail
        refine (addednil_any _).mono ?_
        rintro e w2 ⟨rfl, rfl⟩
        go_wp2_with fail
        refine (admitnil_any _ _ _).mono ?_
        rintro e w2 ⟨rfl, rfl⟩
        go_wp2_with fail
        refine (est_any a1 _ hsk hsz).mono ?_
        rintro e w3 ⟨rfl, m, rfl⟩
        rw [est_new]
        go_wp2_with fail
        refine (added_any _ (hsk.drewN m)).mono ?_
        rintro e w3 ⟨rfl, m2, rfl⟩
        go_wp2_with fail
        go_ret
        exact ⟨rfl, below_drewN (hb1.trans (hb2.mono hb1.size)) _⟩


theorem own : ownKnob Try.prog.godebug = none := by kernel_rfl
theorem laidOut : laidOutB Try.prog = true := by kernel_rfl
set_option maxRecDepth 100000 in
theorem lifted (os : Os) (started : os.Started) (H : Type) (enc : TypeId × Value → H) :
    ReturnsInHanded {} Try.checked os 8 .any (Rows.sketchFormsSpec.pre6 enc Try.prog Try.f8 Rows.sketchFormsRow.domain false) (Rows.sketchFormsSpec.post enc Try.prog Try.f8 false true false false) := by
  refine returnsInHanded_of_change (C := Try.checked) own started (by kernel_rfl) Try.func8
    (ChangeSpec.witness6 (enc := enc) (C := Try.checked) false ⟨#[], #[.int .i64 0, .string ByteArray.empty], []⟩ 8 (by kernel_rfl) (by kernel_rfl) (by kernel_rfl) (by kernel_rfl)) ?_
  intro W base args ds gs before hval0 hW hcnd _
  have hval : ∀ (j : Nat) t v, Try.f8.params[j]? = some t → args[j]? = some v → Value.okWide Try.prog W .any base t v := hval0
  have hW' := hW
  obtain ⟨p, q, hA0, hV, rfl, hfz, hnd⟩ := hW
  have hA : DataW.TrodAll enc Try.prog W 0 (fun _ => true) true Try.f8.params.toList args.toList ds p := hA0
  rw [Try.params8] at hA hval
  obtain ⟨v0, vs0, d0, ds0, p0, q0, hargs, rfl, rfl, h0, r0⟩ := trodAll_cons hA
  obtain ⟨v1, vs1, d1, ds1, p1, q1, rfl, rfl, rfl, h1, r1⟩ := trodAll_cons r0
  obtain ⟨rfl, rfl, rfl⟩ := trodAll_nil r1
  obtain rfl : args = #[v0, v1] := by cases args; simp_all
  obtain ⟨rfl, rfl⟩ := trodVars_none hV
  have k0 := h0
  have lt0 : ∀ x ∈ p0, x.block < W.heap.size := by obtain ⟨m, hm⟩ := k0; exact DataW.trod_lt m _ _ _ hm
  have k1 := h1
  have lt1 : ∀ x ∈ p1, x.block < W.heap.size := by obtain ⟨m, hm⟩ := k1; exact DataW.trod_lt m _ _ _ hm
  obtain ⟨a0, rfl, e0, _, w0⟩ := open_int Try.underlying3 (hval 0 3 v0 rfl rfl) h0
  obtain ⟨a1, rfl, e1, _, w1⟩ := open_string Try.underlying9 (hval 1 9 v1 rfl rfl) h1
  clear hA0 hval0
  refine (walk a0 a1 W w0 w1).mono fun e W' ⟨he, bel⟩ => ?_
  subst he
  exact ⟨_, rfl, _, _, _, [], _, [], hW', trodAll_mk1 (shut_bool Try.underlying4 _), (trodAll_cons_mk (Below.trod laidOut (by kernel_rfl) (of_decide_eq_true (by kernel_rfl)) k0 bel lt0) (trodAll_cons_mk (Below.trod laidOut (by kernel_rfl) (of_decide_eq_true (by kernel_rfl)) k1 bel lt1) trodAll_mk0)), rfl, bel.frame _, fun h => by cases h⟩

theorem over : Rows.sketchFormsRow.holds Try.pinned (OpenSpec.ofChange Rows.sketchFormsSpec) :=
  OpenClaim.holds_of_wide 8 Try.f8 rfl rfl rfl rfl rfl rfl rfl ⟨rfl, rfl, rfl, rfl, rfl⟩ rfl rfl rfl rfl rfl (by kernel_rfl) Try.func8 (by kernel_rfl)
    (of_decide_eq_true (by kernel_rfl)) (by unfold Func.isWrapper; first | (rw [if_pos (by decide +kernel)]; kernel_rfl) | (rw [if_neg (by decide +kernel)]; exact ⟨rfl, rfl⟩))
    (fun os started H enc _ => lifted os started H enc)

/-- The statement. -/
theorem proved : Rows.SketchFormsSaid := over
#print axioms proved
end Go.Proofs.Ytkcnnkbfnelfjaa.sketchForms
