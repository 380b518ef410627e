/-
  SyntaxQuotes.
-/
import Derived.Test.YtjcgognngeagiaaDoorLaid
import Derived.Test.YtjcgognngeagiaaDoorAwake
import Derived.Test.YtjcgognngeagiaaDoorCards
import Derived.Test.YtjcgognngeagiaaDoorTie
import Derived.Deep.DeepHandedRow
import Derived.Lib.LaidTab
import Derived.ShutString
import Derived.ChangeOld
import Derived.Below
namespace Go.Proofs.YtjcgognngeagiaaDoor.syntaxQuotes
open Go.ChangeShapes Go.WideShapes Go.ChangeAt Go.RowKit Syn
open Go.ChangeMaps (open_string shut_string)

theorem cln_append (a b : List UInt8) : cln (a ++ b) = (cln a && cln b) := by unfold cln; rw [List.all_append]
theorem cln_esc (c : UInt8) (h : ctl c = false) : cln (esc c) = true := by
  unfold esc cln
  split
  · simp [h]; decide
  · simp [h]
theorem cln_escs : ∀ l : List UInt8, cln l = true → cln (escs l) = true
  | [], _ => rfl
  | c :: l, h => by
    have h' : ctl c = false ∧ cln l = true := by
      unfold cln at h; rw [List.all_cons, Bool.and_eq_true] at h
      exact ⟨by simpa using h.1, h.2⟩
    have e : escs (c :: l) = esc c ++ escs l := by simp [escs]
    rw [e, cln_append, cln_esc c h'.1, cln_escs l h'.2]; rfl
theorem cln_quote {l : List UInt8} (h : cln l = true) : cln (quote l) = true := by
  unfold quote
  rw [cln_append]
  have : cln (34 :: escs l) = cln ([34] ++ escs l) := rfl
  rw [this, cln_append, cln_escs l h]; decide
theorem unq_escs : ∀ (l acc : List UInt8), unqGo acc (escs l ++ [34]) = some (acc ++ l)
  | [], acc => by
    show unqGo acc (34 :: []) = _
    rw [unqGo_cons, if_pos rfl]; simp
  | c :: l, acc => by
    have e : escs (c :: l) ++ [34] = esc c ++ (escs l ++ [34]) := by simp [escs]
    rw [e]
    unfold esc
    split
    · show unqGo acc (92 :: c :: (escs l ++ [34])) = _
      rw [unqGo_cons, if_neg (by decide), if_pos rfl]
      show unqGo (acc ++ [c]) _ = _
      rw [unq_escs l]; simp
    · next h =>
      show unqGo acc (c :: (escs l ++ [34])) = _
      rw [unqGo_cons, if_neg (fun e => h (.inl e)), if_neg (fun e => h (.inr e)), unq_escs l]; simp
theorem unq_quote {l : List UInt8} (h : cln l = true) : unq (quote l) = some l := by
  unfold unq
  rw [cln_quote h]
  have h1 : decide (2 ≤ (quote l).length) = true := by unfold quote; simp
  have h2 : decide ((quote l).head? = some 34) = true := by unfold quote; simp
  rw [h1, h2]
  simp only [Bool.and_self, if_true]
  show unqGo [] (escs l ++ [34]) = _
  rw [unq_escs]; rfl
theorem quote_length (l : List UInt8) : (quote l).length ≤ 2 * l.length + 2 := by
  have := escs_length l
  unfold quote; simp; omega
set_option maxRecDepth 100000 in
set_option maxHeartbeats 2000000 in
theorem walk (s : ByteArray) (w : World) (hs : s.size ≤ maxLen) :
    Calls Tryd.prog 8 #[.string s] w fun e w' => e = .returned (.bool true) ∧ Below w.heap.size w w' := by
  unfold maxLen at hs
  by_cases hl : s.size ≤ 400
  · have hdl : decide ((400 : Int) < (s.size : Int)) = false := by rw [decide_eq_false_iff_not]; omega
    have hR := fun w => rquote_any s w (by omega)
    cases hc : cln (bs s)
    · rw [hc] at hR
      have hQ := fun w => quote_no s w (by unfold maxLen; omega) hc
      have hi := fun w => is_any 2 2 w
      generalize errV 2 = ev at hi hQ
      generalize str (quote (bs s)) = q at hR
      go_enter Tryd.func8, Tryd.ntmps8
      go_wp2_with fail
      refine (awake_any _).mono ?_
      rintro e w1 ⟨rfl, hb1⟩
      replace hb1 := Lib.hid hb1
      go_wp2_with fail
      refine (hQ _).mono ?_
      rintro e w2 ⟨rfl, rfl⟩
      go_wp2_with fail
      refine (hR _).mono ?_
      rintro e w3 ⟨rfl, hb3⟩
      replace hb3 := Lib.hid hb3
      go_wp2_with fail
      refine (hi _).mono ?_
      rintro e w4 ⟨rfl, rfl⟩
      go_wp2
      go_ret
      exact ⟨rfl, Below.next hb1.out hb1.out.size hb3.out⟩
    · rw [hc] at hR
      have hQ := fun w => quote_ok s w (by omega) hc
      have hql := quote_length (bs s)
      rw [bs_length] at hql
      have hU := fun w => unquote_any (str (quote (bs s))) w (by rw [str_size]; omega)
      rw [bs_str, unq_quote hc] at hU
      have hU : ∀ w, Calls Tryd.prog 21 #[.string (str (quote (bs s)))] w fun e w' => e = .returned (.tuple #[.string s, .nilIface]) ∧ Below w.heap.size w w' := hU
      clear hql
      rw [show errV 0 = .nilIface from rfl] at hQ
      generalize str (quote (bs s)) = q at hR hU hQ
      go_enter Tryd.func8, Tryd.ntmps8
      go_wp2_with fail
      refine (awake_any _).mono ?_
      rintro e w1 ⟨rfl, hb1⟩
      replace hb1 := Lib.hid hb1
      go_wp2_with fail
      refine (hQ _).mono ?_
      rintro e w2 ⟨rfl, hb2⟩
      replace hb2 := Lib.hid (Below.next hb1.out hb1.out.size hb2)
      go_wp2_with fail
      refine (hR _).mono ?_
      rintro e w3 ⟨rfl, hb3⟩
      replace hb3 := Lib.hid (Below.next hb2.out hb2.out.size hb3)
      go_wp2_with fail
      refine (hU _).mono ?_
      rintro e w4 ⟨rfl, hb4⟩
      replace hb4 := Lib.hid (Below.next hb3.out hb3.out.size hb4)
      go_wp2
      go_ret
      exact ⟨by simp, hb4.out⟩
  · have hdl : decide ((400 : Int) < (s.size : Int)) = true := by rw [decide_eq_true_iff]; omega
    go_enter Tryd.func8, Tryd.ntmps8
    go_wp2_with fail
    refine (awake_any _).mono ?_
    rintro e w1 ⟨rfl, hb1⟩
    go_wp2_with fail
    refine (awake_any _).mono ?_
    rintro e w2 ⟨rfl, hb2⟩
    go_wp2
    go_ret
    exact ⟨rfl, hb1.trans (hb2.mono hb1.size)⟩

theorem contract (H : Type) (enc : TypeId × Value → H) (W : World) (base : Nat) (args : Array Value) (ds gs : List (DataW H)) (before : List MemPlace)
    (hval0 : ∀ (j : Nat) t v, Tryd.f8.params[j]? = some t → args[j]? = some v → Value.okWide Tryd.prog W .any base t v)
    (hW : DataW.Whole enc Tryd.prog Tryd.f8.params.toList Rows.syntaxQuotesSpec.vars false W args.toList ds gs before) :
    Calls Tryd.prog 8 args W fun e W' => ∃ v, e = .returned v ∧ Rows.syntaxQuotesSpec.post enc Tryd.prog Tryd.f8 false true false false W args v W' := by
  have hval : ∀ (j : Nat) t v, Tryd.f8.params[j]? = some t → args[j]? = some v → Value.okWide Tryd.prog W .any base t v := hval0
  have hW' := hW
  obtain ⟨p, q, hA0, hV, rfl, hfz, hnd⟩ := hW
  have hA : DataW.TrodAll enc Tryd.prog W 0 (fun _ => true) true Tryd.f8.params.toList args.toList ds p := hA0
  rw [Tryd.params8] at hA hval
  obtain ⟨v0, vs0, d0, ds0, p0, q0, hargs, rfl, rfl, h0, r0⟩ := trodAll_cons hA
  obtain ⟨rfl, rfl, rfl⟩ := trodAll_nil r0
  obtain rfl : args = #[v0] := by cases args; simp_all
  obtain ⟨rfl, rfl⟩ := trodVars_none hV
  have k0 := h0
  have lt0 : ∀ x ∈ p0, x.block < W.heap.size := by obtain ⟨m, hm⟩ := k0; exact DataW.trod_lt m _ _ _ hm
  obtain ⟨a0, rfl, e0, _, w0⟩ := open_string Tryd.underlying9 (hval 0 9 v0 rfl rfl) h0
  clear hA0 hval0
  refine (walk a0 W w0).mono fun e W' ⟨he, bel⟩ => ?_
  subst he
  exact ⟨_, rfl, _, _, _, [], _, [], hW', trodAll_mk1 (shut_bool Tryd.underlying4 _), (trodAll_cons_mk (Below.trod laidOut (by kernel_rfl) (of_decide_eq_true (by kernel_rfl)) k0 bel lt0) trodAll_mk0), rfl, bel.frame _, fun h => by cases h⟩

theorem laid_met (os : Os) : laidMet Tryd.prog Rows.syntaxQuotesRow.laid ((laidWorld os).forCall (fun _ _ => 0) ⟨#[], #[.string ByteArray.empty], []⟩).memory :=
  laidMet_of_run' 8 (by kernel_rfl) (by kernel_rfl)
theorem reads (os : Os) {H : Type} (enc : TypeId × Value → H) : ∃ places, DataW.whole enc Tryd.prog ((laidWorld os).forCall (fun _ _ => 0) ⟨#[], #[.string ByteArray.empty], []⟩).memory Tryd.f8.params.toList Rows.syntaxQuotesSpec.vars false #[Value.string ByteArray.empty].toList 8 = some ([.lit (.string [])], [], places) :=
  ⟨[], by kernel_rfl⟩
set_option maxRecDepth 100000 in
theorem lifted (os : Os) (started : os.Started) (H : Type) (enc : TypeId × Value → H) (F : Stop.Interp) :
    ReturnsInHanded {} Tryd.checked os 8 .any ((OpenSpec.ofChange Rows.syntaxQuotesSpec).preRow enc Tryd.prog Tryd.f8 Rows.syntaxQuotesRow.domain false Rows.syntaxQuotesRow.laid) (((OpenSpec.ofChange Rows.syntaxQuotesSpec).at F).post enc Tryd.prog Tryd.f8 false true false false) := by
  obtain ⟨places, hx⟩ := reads os enc
  refine returnsInHanded_of_row (C := Tryd.checked) (s := OpenSpec.ofChange Rows.syntaxQuotesSpec) own started (by kernel_rfl) Tryd.func8
    (witness_row_at (enc := enc) (C := Tryd.checked) false (laidWorld os) #[.string ByteArray.empty] rfl (by kernel_rfl) (by kernel_rfl) (by kernel_rfl)
      (OpenSpec.preRow_of_cond 8 hx (by kernel_rfl) (fun k hk => by cases hk) (by kernel_rfl) (laid_met os))) ?_
  intro W base args ds gs before hval hW _ _ _ hL _ _
  exact contract H enc W base args ds gs before hval hW
theorem said : Rows.SyntaxQuotesSaid :=
  OpenClaim.holds_of_cond 8 Tryd.f8 rfl rfl rfl rfl rfl rfl rfl ⟨rfl, rfl, rfl, rfl, rfl⟩ rfl rfl rfl rfl rfl (by kernel_rfl) Tryd.func8 (by kernel_rfl)
    (of_decide_eq_true (by kernel_rfl)) (by unfold Func.isWrapper; first | (rw [if_pos (by decide +kernel)]; kernel_rfl) | (rw [if_neg (by decide +kernel)]; exact ⟨rfl, rfl⟩))
    (fun os started H enc _ F => by rw [OpenClaim.pre_eq_preRow]; exact lifted os started H enc F)
theorem plain (f : FuncId) (fn : Func) (hf : Tryd.pinned.checked.prog.funcNamed "quayside/quaysidelaw01.SyntaxQuotes" = some f) (hfn : Tryd.pinned.checked.prog.funcs[f]? = some fn) :
    true = Tryd.pinned.checked.prog.looks [] ∧ ∀ (j : Nat) t, fn.params[j]? = some t → Tryd.pinned.checked.prog.wantsStandIn t = false := by
  obtain rfl : f = 8 := Option.some.inj ((show Tryd.prog.funcNamed "quayside/quaysidelaw01.SyntaxQuotes" = some 8 by kernel_rfl).symm.trans hf) |>.symm
  obtain rfl : fn = Tryd.f8 := (Option.some.inj (Tryd.func8.symm.trans hfn)).symm
  refine ⟨by kernel_rfl, fun j t ht => ?_⟩
  rw [Tryd.params8] at ht
  obtain rfl : t = 9 := by simpa using Array.mem_of_getElem? ht
  exact (show Tryd.prog.wantsStandIn 9 = false by kernel_rfl)
theorem card : Rows.SyntaxQuotesCardSaid :=
  Claim7.holds_tied_plain_at .later [] _ _ _ _ said (fun _ h => by cases h) (by kernel_rfl) (fun _ h => by cases h) syntaxQuotes_row_tie rfl ⟨rfl, rfl⟩ (by kernel_rfl) rfl plain (by kernel_rfl)
end Go.Proofs.YtjcgognngeagiaaDoor.syntaxQuotes
