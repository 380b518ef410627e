/-
  SyntaxLists.
-/
import Derived.Test.YtjcgognngeagiaaDoorLaid
import Derived.Test.YtjcgognngeagiaaDoorAwake
import Derived.Test.YtjcgognngeagiaaDoorCards
import Derived.Test.YtjcgognngeagiaaDoorTie
import Derived.Deep.DeepHandedRow
import Derived.Lib.LaidTab
import Derived.ShutString
import Derived.ChangeOld
import Derived.Below
namespace Go.Proofs.YtjcgognngeagiaaDoor.syntaxLists
open Go.ChangeShapes Go.WideShapes Go.ChangeAt Go.RowKit Syn
open Go.ChangeMaps (open_string shut_string)

set_option maxRecDepth 100000 in
set_option maxHeartbeats 2000000 in
theorem walk (s : ByteArray) (w : World) (hs : s.size ≤ maxLen) :
    Calls Tryd.prog 4 #[.string s] w fun e w' => e = .returned (.bool true) ∧ Below w.heap.size w w' := by
  unfold maxLen at hs
  by_cases hl : s.size ≤ 400
  · have hdl : decide ((400 : Int) < (s.size : Int)) = false := by rw [decide_eq_false_iff_not]; omega
    have hL := fun w => list_any s w (by omega)
    have hR := fun w => rlist_any s w (by omega)
    cases hp : Syn.list (bs s) with
    | none =>
      rw [hp] at hL hR
      go_enter Tryd.func4, Tryd.ntmps4
      go_wp2_with fail
      refine (awake_any _).mono ?_
      rintro e w1 ⟨rfl, hb1⟩
      replace hb1 := Lib.hid hb1
      go_wp2_with fail
      refine (hL _).mono ?_
      rintro e w2 ⟨v, rfl, rfl, hb2⟩
      replace hb2 := Lib.hid hb2
      rw [show errV (errO (none : Option (List (List UInt8)))) = errV 2 from rfl]
      go_wp2_with fail
      refine (hR _).mono ?_
      rintro e w3 ⟨v, rfl, rfl, hb3⟩
      replace hb3 := Lib.hid hb3
      rw [show (none : Option (List (List UInt8))).isSome = false from rfl]
      have hi := fun w => is_any 2 2 w
      generalize errV 2 = ev at hi ⊢
      go_wp2_with fail
      refine (hi _).mono ?_
      rintro e w4 ⟨rfl, rfl⟩
      go_wp2
      go_ret
      exact ⟨rfl, Below.next (Below.next hb1.out hb1.out.size hb2.out) (hb1.out.trans (hb2.out.mono hb1.out.size)).size hb3.out⟩
    | some l =>
      rw [hp] at hL hR
      have hln : l.length ≤ maxLen := by
        have h := hp
        unfold Syn.list at h
        cases hq : parts 44 (bs s) with
        | none => rw [hq] at h; cases h
        | some m =>
          rw [hq] at h
          simp only [Option.map_some, Option.some.injEq] at h
          have h1 := parts_len hq
          have h2 := List.length_filter_le (fun y : List UInt8 => !y.isEmpty) m
          rw [h] at h2
          unfold maxLen; omega
      go_enter Tryd.func4, Tryd.ntmps4
      go_wp2_with fail
      refine (awake_any _).mono ?_
      rintro e w1 ⟨rfl, hb1⟩
      replace hb1 := Lib.hid hb1
      go_wp2_with fail
      refine (hL _).mono ?_
      rintro e w2 ⟨v, rfl, hv2, hb2⟩
      replace hb2 := Lib.hid hb2
      replace hv2 := Lib.hid hv2
      rw [show errV (errO (some l)) = .nilIface from rfl]
      go_wp2_with fail
      refine (hR _).mono ?_
      rintro e w3 ⟨v', rfl, hv3, hb3⟩
      replace hb3 := Lib.hid hb3
      replace hv3 := Lib.hid hv3
      rw [show (some l).isSome = true from rfl]
      go_wp2_with fail
      refine (texts_any _ ((Rd.own hv2.out).below hb3.out) (Rd.own hv3.out) hln).mono ?_
      rintro e w4 ⟨rfl, n, rfl⟩
      rw [show decide (l = l) = true from by simp]
      go_wp2
      go_ret
      exact ⟨rfl, below_drewN (Below.next (Below.next hb1.out hb1.out.size hb2.out) (hb1.out.trans (hb2.out.mono hb1.out.size)).size hb3.out) n⟩
  · have hdl : decide ((400 : Int) < (s.size : Int)) = true := by rw [decide_eq_true_iff]; omega
    go_enter Tryd.func4, Tryd.ntmps4
    go_wp2_with fail
    refine (awake_any _).mono ?_
    rintro e w1 ⟨rfl, hb1⟩
    go_wp2_with fail
    refine (awake_any _).mono ?_
    rintro e w2 ⟨rfl, hb2⟩
    go_wp2
    go_ret
    exact ⟨rfl, hb1.trans (hb2.mono hb1.size)⟩

theorem contract (H : Type) (enc : TypeId × Value → H) (W : World) (base : Nat) (args : Array Value) (ds gs : List (DataW H)) (before : List MemPlace)
    (hval0 : ∀ (j : Nat) t v, Tryd.f4.params[j]? = some t → args[j]? = some v → Value.okWide Tryd.prog W .any base t v)
    (hW : DataW.Whole enc Tryd.prog Tryd.f4.params.toList Rows.syntaxListsSpec.vars false W args.toList ds gs before) :
    Calls Tryd.prog 4 args W fun e W' => ∃ v, e = .returned v ∧ Rows.syntaxListsSpec.post enc Tryd.prog Tryd.f4 false true false false W args v W' := by
  have hval : ∀ (j : Nat) t v, Tryd.f4.params[j]? = some t → args[j]? = some v → Value.okWide Tryd.prog W .any base t v := hval0
  have hW' := hW
  obtain ⟨p, q, hA0, hV, rfl, hfz, hnd⟩ := hW
  have hA : DataW.TrodAll enc Tryd.prog W 0 (fun _ => true) true Tryd.f4.params.toList args.toList ds p := hA0
  rw [Tryd.params4] at hA hval
  obtain ⟨v0, vs0, d0, ds0, p0, q0, hargs, rfl, rfl, h0, r0⟩ := trodAll_cons hA
  obtain ⟨rfl, rfl, rfl⟩ := trodAll_nil r0
  obtain rfl : args = #[v0] := by cases args; simp_all
  obtain ⟨rfl, rfl⟩ := trodVars_none hV
  have k0 := h0
  have lt0 : ∀ x ∈ p0, x.block < W.heap.size := by obtain ⟨m, hm⟩ := k0; exact DataW.trod_lt m _ _ _ hm
  obtain ⟨a0, rfl, e0, _, w0⟩ := open_string Tryd.underlying9 (hval 0 9 v0 rfl rfl) h0
  clear hA0 hval0
  refine (walk a0 W w0).mono fun e W' ⟨he, bel⟩ => ?_
  subst he
  exact ⟨_, rfl, _, _, _, [], _, [], hW', trodAll_mk1 (shut_bool Tryd.underlying4 _), (trodAll_cons_mk (Below.trod laidOut (by kernel_rfl) (of_decide_eq_true (by kernel_rfl)) k0 bel lt0) trodAll_mk0), rfl, bel.frame _, fun h => by cases h⟩

theorem laid_met (os : Os) : laidMet Tryd.prog Rows.syntaxListsRow.laid ((laidWorld os).forCall (fun _ _ => 0) ⟨#[], #[.string ByteArray.empty], []⟩).memory :=
  laidMet_of_run' 8 (by kernel_rfl) (by kernel_rfl)
theorem reads (os : Os) {H : Type} (enc : TypeId × Value → H) : ∃ places, DataW.whole enc Tryd.prog ((laidWorld os).forCall (fun _ _ => 0) ⟨#[], #[.string ByteArray.empty], []⟩).memory Tryd.f4.params.toList Rows.syntaxListsSpec.vars false #[Value.string ByteArray.empty].toList 8 = some ([.lit (.string [])], [], places) :=
  ⟨[], by kernel_rfl⟩
set_option maxRecDepth 100000 in
theorem lifted (os : Os) (started : os.Started) (H : Type) (enc : TypeId × Value → H) (F : Stop.Interp) :
    ReturnsInHanded {} Tryd.checked os 4 .any ((OpenSpec.ofChange Rows.syntaxListsSpec).preRow enc Tryd.prog Tryd.f4 Rows.syntaxListsRow.domain false Rows.syntaxListsRow.laid) (((OpenSpec.ofChange Rows.syntaxListsSpec).at F).post enc Tryd.prog Tryd.f4 false true false false) := by
  obtain ⟨places, hx⟩ := reads os enc
  refine returnsInHanded_of_row (C := Tryd.checked) (s := OpenSpec.ofChange Rows.syntaxListsSpec) own started (by kernel_rfl) Tryd.func4
    (witness_row_at (enc := enc) (C := Tryd.checked) false (laidWorld os) #[.string ByteArray.empty] rfl (by kernel_rfl) (by kernel_rfl) (by kernel_rfl)
      (OpenSpec.preRow_of_cond 8 hx (by kernel_rfl) (fun k hk => by cases hk) (by kernel_rfl) (laid_met os))) ?_
  intro W base args ds gs before hval hW _ _ _ hL _ _
  exact contract H enc W base args ds gs before hval hW
theorem said : Rows.SyntaxListsSaid :=
  OpenClaim.holds_of_cond 4 Tryd.f4 rfl rfl rfl rfl rfl rfl rfl ⟨rfl, rfl, rfl, rfl, rfl⟩ rfl rfl rfl rfl rfl (by kernel_rfl) Tryd.func4 (by kernel_rfl)
    (of_decide_eq_true (by kernel_rfl)) (by unfold Func.isWrapper; first | (rw [if_pos (by decide +kernel)]; kernel_rfl) | (rw [if_neg (by decide +kernel)]; exact ⟨rfl, rfl⟩))
    (fun os started H enc _ F => by rw [OpenClaim.pre_eq_preRow]; exact lifted os started H enc F)
theorem plain (f : FuncId) (fn : Func) (hf : Tryd.pinned.checked.prog.funcNamed "quayside/quaysidelaw01.SyntaxLists" = some f) (hfn : Tryd.pinned.checked.prog.funcs[f]? = some fn) :
    true = Tryd.pinned.checked.prog.looks [] ∧ ∀ (j : Nat) t, fn.params[j]? = some t → Tryd.pinned.checked.prog.wantsStandIn t = false := by
  obtain rfl : f = 4 := Option.some.inj ((show Tryd.prog.funcNamed "quayside/quaysidelaw01.SyntaxLists" = some 4 by kernel_rfl).symm.trans hf) |>.symm
  obtain rfl : fn = Tryd.f4 := (Option.some.inj (Tryd.func4.symm.trans hfn)).symm
  refine ⟨by kernel_rfl, fun j t ht => ?_⟩
  rw [Tryd.params4] at ht
  obtain rfl : t = 9 := by simpa using Array.mem_of_getElem? ht
  exact (show Tryd.prog.wantsStandIn 9 = false by kernel_rfl)
theorem card : Rows.SyntaxListsCardSaid :=
  Claim7.holds_tied_plain_at .later [] _ _ _ _ said (fun _ h => by cases h) (by kernel_rfl) (fun _ h => by cases h) syntaxLists_row_tie rfl ⟨rfl, rfl⟩ (by kernel_rfl) rfl plain (by kernel_rfl)
end Go.Proofs.YtjcgognngeagiaaDoor.syntaxLists
