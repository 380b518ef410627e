/-
  ConnReturns.
-/
import Derived.Test.YtjffffpfejmoiaaGreatDoorNRetW
import Derived.Test.YtjffffpfejmoiaaGreatDoorLaid6
import Derived.Test.YtjffffpfejmoiaaGreatDoorHShape
import Derived.Test.YtjffffpfejmoiaaGreatDoorCards
import Derived.Test.YtjffffpfejmoiaaGreatDoorTie
import Derived.Deep.DeepHandedRow
import Derived.Lib.LaidTab
import Derived.ShutString
import Derived.ChangeOld
import Derived.Below
import Derived.SizedLaws
namespace Go.Proofs.YtjffffpfejmoiaaGreatDoor.connReturns
open Go.ChangeShapes Go.WideShapes Go.ChangeAt Go.RowKit Syn Hd Ck
open Go.ChangeMaps (open_string shut_string)

theorem retc_any (a : ByteArray) (W0 : World) (hM : MaxL W0) (hT : W0.cell? ⟨5, 15, none⟩ = some (.int .u8 4)) :
    Calls Tryz.prog 5 #[.string a] W0 fun e w' => e = .returned (.bool true) ∧ Below W0.heap.size W0 w' := by
  have h := returns_conn (bs a) W0 hM hT
  rw [str_bs] at h
  exact h

set_option maxRecDepth 100000 in
theorem contract (H : Type) (enc : TypeId × Value → H) (W : World) (base : Nat) (args : Array Value) (ds gs : List (DataW H)) (before : List MemPlace)
    (hval0 : ∀ (j : Nat) t v, Tryz.f5.params[j]? = some t → args[j]? = some v → Value.okWide Tryz.prog W .any base t v)
    (hW : DataW.Whole enc Tryz.prog Tryz.f5.params.toList Rows.connReturnsSpec.vars false W args.toList ds gs before)
    (hz : (DataW.weightsEach Tryz.prog (Tryz.f5.params.toList ++ (OpenSpec.ofChange Rows.connReturnsSpec).bare.plain.varTypes Tryz.prog) (ds ++ gs)).all (· ≤ reachBytes) = true)
    (hL : laidMet Tryz.prog Rows.connReturnsRow.laid W) (hSh : W.ShapedOpen Tryz.prog) :
    Calls Tryz.prog 5 args W fun e W' => ∃ v, e = .returned v ∧ Rows.connReturnsSpec.post enc Tryz.prog Tryz.f5 false true false false W args v W' := by
  have hval : ∀ (j : Nat) t v, Tryz.f5.params[j]? = some t → args[j]? = some v → Value.okWide Tryz.prog W .any base t v := hval0
  have hW' := hW
  obtain ⟨p, q, hA0, hV, rfl, hfz, hnd⟩ := hW
  have hA : DataW.TrodAll enc Tryz.prog W 0 (fun _ => true) true Tryz.f5.params.toList args.toList ds p := hA0
  rw [Tryz.params5] at hA hval hz
  obtain ⟨v0, vs0, d0, ds0, p0, q0, hargs, rfl, rfl, h0, r0⟩ := trodAll_cons hA
  obtain ⟨rfl, rfl, rfl⟩ := trodAll_nil r0
  obtain rfl : args = #[v0] := by cases args; simp_all
  obtain ⟨rfl, rfl⟩ := trodVars_none hV
  have k0 := h0
  have lt0 : ∀ x ∈ p0, x.block < W.heap.size := by obtain ⟨m, hm⟩ := k0; exact DataW.trod_lt m _ _ _ hm
  obtain ⟨a0, rfl, e0, _, w0⟩ := open_string Tryz.underlying9 (hval 0 9 v0 rfl rfl) h0
  clear hA0 hval0
  have hM := maxl_of hSh
  have hT := cell64 hL
  refine (retc_any a0 W hM hT).mono fun e W' ⟨he, bel⟩ => ?_
  subst he
  exact ⟨_, rfl, _, _, _, [], _, [], hW', trodAll_mk1 (shut_bool Tryz.underlying4 _), (trodAll_cons_mk (Below.trod laidOut (by kernel_rfl) (of_decide_eq_true (by kernel_rfl)) k0 bel lt0) trodAll_mk0), rfl, bel.frame _, fun h => by cases h⟩

theorem laid_met (os : Os) : laidMet Tryz.prog Rows.connReturnsRow.laid ((laidWorld5 os).forCall (fun _ _ => 0) ⟨#[], #[.string ByteArray.empty], []⟩).memory :=
  laidMet_of_run' 8 (by kernel_rfl) (by kernel_rfl)
theorem reads (os : Os) {H : Type} (enc : TypeId × Value → H) : ∃ places, DataW.whole enc Tryz.prog ((laidWorld5 os).forCall (fun _ _ => 0) ⟨#[], #[.string ByteArray.empty], []⟩).memory Tryz.f5.params.toList Rows.connReturnsSpec.vars false #[Value.string ByteArray.empty].toList 8 = some ([.lit (.string [])], [], places) :=
  ⟨[], by kernel_rfl⟩
set_option maxRecDepth 100000 in
theorem lifted (os : Os) (started : os.Started) (H : Type) (enc : TypeId × Value → H) (F : Stop.Interp) :
    ReturnsInHanded {} Tryz.checked os 5 .any ((OpenSpec.ofChange Rows.connReturnsSpec).preRow enc Tryz.prog Tryz.f5 Rows.connReturnsRow.domain false Rows.connReturnsRow.laid) (((OpenSpec.ofChange Rows.connReturnsSpec).at F).post enc Tryz.prog Tryz.f5 false true false false) := by
  obtain ⟨places, hx⟩ := reads os enc
  refine returnsInHanded_of_row (C := Tryz.checked) (s := OpenSpec.ofChange Rows.connReturnsSpec) own started (by kernel_rfl) Tryz.func5
    (witness_row_at (enc := enc) (C := Tryz.checked) false (laidWorld5 os) #[.string ByteArray.empty] rfl (by kernel_rfl) (by kernel_rfl) (by kernel_rfl)
      (OpenSpec.preRow_of_cond 8 hx (by kernel_rfl) (fun k hk => by cases hk) (by kernel_rfl) (laid_met os))) ?_
  intro W base args ds gs before hval hW _ _ hz hL hSh _
  exact contract H enc W base args ds gs before hval hW hz hL hSh
noncomputable def qrec (g : FuncId) : Bool := ((Tryz.prog.funcs[g]?).elim [] Tryz.prog.leadsTo).any fun h => (Tryz.prog.closure h).contains g
theorem any_drop {q : FuncId → Bool} {l : List FuncId} (n : Nat) (h1 : (l.take n).any q = false) (h2 : (l.drop n).any q = false) : l.any q = false := by rw [← List.take_append_drop n l, List.any_append, h1, h2]; rfl
theorem qrec0 : ((Tryz.prog.closure 5).take 15).any qrec = false := by kernel_rfl
theorem qrec1 : (((Tryz.prog.closure 5).drop 15).take 15).any qrec = false := by kernel_rfl
theorem qrec2 : ((((Tryz.prog.closure 5).drop 15).drop 15).take 15).any qrec = false := by kernel_rfl
theorem qrec3 : (((((Tryz.prog.closure 5).drop 15).drop 15).drop 15).take 15).any qrec = false := by kernel_rfl
theorem qrec4 : ((((((Tryz.prog.closure 5).drop 15).drop 15).drop 15).drop 15).take 15).any qrec = false := by kernel_rfl
theorem qrec5 : (((((((Tryz.prog.closure 5).drop 15).drop 15).drop 15).drop 15).drop 15).take 15).any qrec = false := by kernel_rfl
theorem qrec6 : ((((((((Tryz.prog.closure 5).drop 15).drop 15).drop 15).drop 15).drop 15).drop 15).take 15).any qrec = false := by kernel_rfl
theorem qrec7 : (((((((((Tryz.prog.closure 5).drop 15).drop 15).drop 15).drop 15).drop 15).drop 15).drop 15).take 15).any qrec = false := by kernel_rfl
theorem qrec8 : ((((((((((Tryz.prog.closure 5).drop 15).drop 15).drop 15).drop 15).drop 15).drop 15).drop 15).drop 15).take 15).any qrec = false := by kernel_rfl
theorem qrec9 : (((((((((((Tryz.prog.closure 5).drop 15).drop 15).drop 15).drop 15).drop 15).drop 15).drop 15).drop 15).drop 15).take 15).any qrec = false := by kernel_rfl
theorem qrec10 : (((((((((((Tryz.prog.closure 5).drop 15).drop 15).drop 15).drop 15).drop 15).drop 15).drop 15).drop 15).drop 15).drop 15).any qrec = false := by kernel_rfl
theorem unf_ : Tryz.prog.unfollowed 5 = false := by kernel_rfl
theorem rec_ : Tryz.prog.recurses 5 = false := by
  unfold Program.recurses
  rw [unf_, Bool.false_or]
  exact any_drop 15 qrec0 (any_drop 15 qrec1 (any_drop 15 qrec2 (any_drop 15 qrec3 (any_drop 15 qrec4 (any_drop 15 qrec5 (any_drop 15 qrec6 (any_drop 15 qrec7 (any_drop 15 qrec8 (any_drop 15 qrec9 (qrec10))))))))))
set_option maxRecDepth 100000 in
theorem closed_ : joinedFacts Tryz.prog 5 Tryz.f5 (OpenSpec.ofChange Rows.connReturnsSpec).bare Rows.connReturnsRow = true := by
  unfold joinedFacts
  rw [rec_, unf_]
  kernel_rfl
theorem said : Rows.ConnReturnsSaid :=
  OpenClaim.holds_of_cond 5 Tryz.f5 rfl rfl rfl rfl rfl rfl rfl ⟨rfl, rfl, rfl, rfl, rfl⟩ rfl rfl rfl rfl rfl (by kernel_rfl) Tryz.func5 closed_
    (of_decide_eq_true (by kernel_rfl)) (by unfold Func.isWrapper; first | (rw [if_pos (by decide +kernel)]; kernel_rfl) | (rw [if_neg (by decide +kernel)]; exact ⟨rfl, rfl⟩))
    (fun os started H enc _ F => by rw [OpenClaim.pre_eq_preRow]; exact lifted os started H enc F)
theorem plain (f : FuncId) (fn : Func) (hf : Tryz.pinned.checked.prog.funcNamed "quayside/quaysidelaw08.ConnReturns" = some f) (hfn : Tryz.pinned.checked.prog.funcs[f]? = some fn) :
    true = Tryz.pinned.checked.prog.looks [] ∧ ∀ (j : Nat) t, fn.params[j]? = some t → Tryz.pinned.checked.prog.wantsStandIn t = false := by
  obtain rfl : f = 5 := Option.some.inj ((show Tryz.prog.funcNamed "quayside/quaysidelaw08.ConnReturns" = some 5 by kernel_rfl).symm.trans hf) |>.symm
  obtain rfl : fn = Tryz.f5 := (Option.some.inj (Tryz.func5.symm.trans hfn)).symm
  refine ⟨by kernel_rfl, fun j t ht => ?_⟩
  rw [Tryz.params5] at ht
  have hm := Array.mem_of_getElem? ht
  simp at hm
  first | (subst hm; exact (show Tryz.prog.wantsStandIn _ = false by kernel_rfl))
theorem card : Rows.ConnReturnsCardSaid :=
  Claim7.holds_tied_plain_at .later [] _ _ _ _ said (fun _ h => by cases h) (by kernel_rfl) (fun _ h => by cases h) connReturns_row_tie rfl ⟨rfl, rfl⟩ (by kernel_rfl) rfl plain (by kernel_rfl)
end Go.Proofs.YtjffffpfejmoiaaGreatDoor.connReturns
