/-
  WholeSmuggling.
-/
import Derived.Test.YtjffffpfejmoiaaGreatDoorSmugW
import Derived.Test.YtjffffpfejmoiaaGreatDoorTIn2
import Derived.Test.YtjffffpfejmoiaaGreatDoorCIn
import Derived.Test.YtjffffpfejmoiaaGreatDoorLaid2
import Derived.Test.YtjffffpfejmoiaaGreatDoorHShape
import Derived.Test.YtjffffpfejmoiaaGreatDoorCards
import Derived.Test.YtjffffpfejmoiaaGreatDoorTie
import Derived.Deep.DeepHandedRow
import Derived.Lib.LaidTab
import Derived.ShutString
import Derived.ChangeOld
import Derived.Below
import Derived.SizedLaws
namespace Go.Proofs.YtjffffpfejmoiaaGreatDoor.wholeSmuggling
open Go.ChangeShapes Go.WideShapes Go.ChangeAt Go.RowKit Syn Hd Ck
open Go.ChangeMaps (open_string shut_string)

theorem smug_any (v1 v2 v3 : Value) (ls cs : List (List UInt8)) (bd : List UInt8) (W0 : World) (h1 : Rd W0 1 v1 ls.length (strs ls)) (h2 : Rd W0 1 v2 cs.length (strs cs)) (h3 : Rd W0 1 v3 bd.length (u8s bd)) (hl1 : ∀ t ∈ ls, t.length ≤ 140737488355328) (hl2 : ∀ t ∈ cs, t.length ≤ 140737488355328) (hM : MaxL W0) :
    Calls Tryz.prog 3 #[v1, v2, v3] W0 fun e w' => e = .returned (.bool true) ∧ Below W0.heap.size W0 w' := by
  obtain ⟨A1, c1, rfl, -, -, -⟩ := id h1
  obtain ⟨A2, c2, rfl, -, -, -⟩ := id h2
  obtain ⟨A3, c3, rfl, -, -, -⟩ := id h3
  exact smug_walk ls cs A1 A2 c1 c2 bd A3 c3 W0 h1 h2 h3 hl1 hl2 hM

set_option maxRecDepth 100000 in
theorem contract (H : Type) (enc : TypeId × Value → H) (W : World) (base : Nat) (args : Array Value) (ds gs : List (DataW H)) (before : List MemPlace)
    (hval0 : ∀ (j : Nat) t v, Tryz.f3.params[j]? = some t → args[j]? = some v → Value.okWide Tryz.prog W .any base t v)
    (hW : DataW.Whole enc Tryz.prog Tryz.f3.params.toList Rows.wholeSmugglingSpec.vars false W args.toList ds gs before)
    (hz : (DataW.weightsEach Tryz.prog (Tryz.f3.params.toList ++ (OpenSpec.ofChange Rows.wholeSmugglingSpec).bare.plain.varTypes Tryz.prog) (ds ++ gs)).all (· ≤ reachBytes) = true)
    (hL : laidMet Tryz.prog Rows.wholeSmugglingRow.laid W) (hSh : W.ShapedOpen Tryz.prog) :
    Calls Tryz.prog 3 args W fun e W' => ∃ v, e = .returned v ∧ Rows.wholeSmugglingSpec.post enc Tryz.prog Tryz.f3 false true false false W args v W' := by
  have hval : ∀ (j : Nat) t v, Tryz.f3.params[j]? = some t → args[j]? = some v → Value.okWide Tryz.prog W .any base t v := hval0
  have hW' := hW
  obtain ⟨p, q, hA0, hV, rfl, hfz, hnd⟩ := hW
  have hA : DataW.TrodAll enc Tryz.prog W 0 (fun _ => true) true Tryz.f3.params.toList args.toList ds p := hA0
  rw [Tryz.params3] at hA hval hz
  obtain ⟨v0, vs0, d0, ds0, p0, q0, hargs, rfl, rfl, h0, r0⟩ := trodAll_cons hA
  obtain ⟨v1, vs1, d1, ds1, p1, q1, rfl, rfl, rfl, h1, r1⟩ := trodAll_cons r0
  obtain ⟨v2, vs2, d2, ds2, p2, q2, rfl, rfl, rfl, h2, r2⟩ := trodAll_cons r1
  obtain ⟨rfl, rfl, rfl⟩ := trodAll_nil r2
  obtain rfl : args = #[v0, v1, v2] := by cases args; simp_all
  obtain ⟨rfl, rfl⟩ := trodVars_none hV
  have k0 := h0
  have lt0 : ∀ x ∈ p0, x.block < W.heap.size := by obtain ⟨m, hm⟩ := k0; exact DataW.trod_lt m _ _ _ hm
  have k1 := h1
  have lt1 : ∀ x ∈ p1, x.block < W.heap.size := by obtain ⟨m, hm⟩ := k1; exact DataW.trod_lt m _ _ _ hm
  have k2 := h2
  have lt2 : ∀ x ∈ p2, x.block < W.heap.size := by obtain ⟨m, hm⟩ := k2; exact DataW.trod_lt m _ _ _ hm
  have hw0 : ∀ n ∈ d0.weights Tryz.prog 22, n ≤ reachBytes := fun n hn => by
    have := List.all_eq_true.1 hz n (DataW.weights_mem_each (j := 0) rfl rfl n hn)
    simpa using this
  have hw1 : ∀ n ∈ d1.weights Tryz.prog 22, n ≤ reachBytes := fun n hn => by
    have := List.all_eq_true.1 hz n (DataW.weights_mem_each (j := 1) rfl rfl n hn)
    simpa using this
  have hw2 : ∀ n ∈ d2.weights Tryz.prog 23, n ≤ reachBytes := fun n hn => by
    have := List.all_eq_true.1 hz n (DataW.weights_mem_each (j := 2) rfl rfl n hn)
    simpa using this
  obtain ⟨ts0, R0, T0, N0⟩ := texts_in2 (hval 0 22 v0 rfl rfl) h0 hw0
  obtain ⟨ts1, R1, T1, N1⟩ := texts_in2 (hval 1 22 v1 rfl rfl) h1 hw1
  obtain ⟨l2, R2, N2⟩ := bytes8_in (hval 2 23 v2 rfl rfl) h2 hw2
  clear hA0 hval0
  have hM := maxl_of hSh
  have _ := hL
  refine (smug_any v0 v1 v2 ts0 ts1 l2 W R0 R1 R2 T0 T1 hM).mono fun e W' ⟨he, bel⟩ => ?_
  subst he
  exact ⟨_, rfl, _, _, _, [], _, [], hW', trodAll_mk1 (shut_bool Tryz.underlying4 _), (trodAll_cons_mk (Below.trod laidOut (by kernel_rfl) (of_decide_eq_true (by kernel_rfl)) k0 bel lt0) (trodAll_cons_mk (Below.trod laidOut (by kernel_rfl) (of_decide_eq_true (by kernel_rfl)) k1 bel lt1) (trodAll_cons_mk (Below.trod laidOut (by kernel_rfl) (of_decide_eq_true (by kernel_rfl)) k2 bel lt2) trodAll_mk0))), rfl, bel.frame _, fun h => by cases h⟩

theorem laid_met (os : Os) : laidMet Tryz.prog Rows.wholeSmugglingRow.laid ((laidWorld5 os).forCall (fun _ _ => 0) ⟨#[], #[.slice none 0 0, .slice none 0 0, .slice none 0 0], []⟩).memory :=
  laidMet_of_run' 8 (by kernel_rfl) (by kernel_rfl)
theorem reads (os : Os) {H : Type} (enc : TypeId × Value → H) : ∃ places, DataW.whole enc Tryz.prog ((laidWorld5 os).forCall (fun _ _ => 0) ⟨#[], #[.slice none 0 0, .slice none 0 0, .slice none 0 0], []⟩).memory Tryz.f3.params.toList Rows.wholeSmugglingSpec.vars false #[Value.slice none 0 0, Value.slice none 0 0, Value.slice none 0 0].toList 8 = some ([.nil, .nil, .nil], [], places) :=
  ⟨[], by kernel_rfl⟩
set_option maxRecDepth 100000 in
theorem lifted (os : Os) (started : os.Started) (H : Type) (enc : TypeId × Value → H) (F : Stop.Interp) :
    ReturnsInHanded {} Tryz.checked os 3 .any ((OpenSpec.ofChange Rows.wholeSmugglingSpec).preRow enc Tryz.prog Tryz.f3 Rows.wholeSmugglingRow.domain false Rows.wholeSmugglingRow.laid) (((OpenSpec.ofChange Rows.wholeSmugglingSpec).at F).post enc Tryz.prog Tryz.f3 false true false false) := by
  obtain ⟨places, hx⟩ := reads os enc
  refine returnsInHanded_of_row (C := Tryz.checked) (s := OpenSpec.ofChange Rows.wholeSmugglingSpec) own started (by kernel_rfl) Tryz.func3
    (witness_row_at (enc := enc) (C := Tryz.checked) false (laidWorld5 os) #[.slice none 0 0, .slice none 0 0, .slice none 0 0] rfl (by kernel_rfl) (by kernel_rfl) (by kernel_rfl)
      (OpenSpec.preRow_of_cond 8 hx (by kernel_rfl) (fun k hk => by cases hk) (by kernel_rfl) (laid_met os))) ?_
  intro W base args ds gs before hval hW _ _ hz hL hSh _
  exact contract H enc W base args ds gs before hval hW hz hL hSh
noncomputable def qrec (g : FuncId) : Bool := ((Tryz.prog.funcs[g]?).elim [] Tryz.prog.leadsTo).any fun h => (Tryz.prog.closure h).contains g
theorem any_drop {q : FuncId → Bool} {l : List FuncId} (n : Nat) (h1 : (l.take n).any q = false) (h2 : (l.drop n).any q = false) : l.any q = false := by rw [← List.take_append_drop n l, List.any_append, h1, h2]; rfl
theorem qrec0 : ((Tryz.prog.closure 3).take 15).any qrec = false := by kernel_rfl
theorem qrec1 : (((Tryz.prog.closure 3).drop 15).take 15).any qrec = false := by kernel_rfl
theorem qrec2 : ((((Tryz.prog.closure 3).drop 15).drop 15).take 15).any qrec = false := by kernel_rfl
theorem qrec3 : (((((Tryz.prog.closure 3).drop 15).drop 15).drop 15).take 15).any qrec = false := by kernel_rfl
theorem qrec4 : ((((((Tryz.prog.closure 3).drop 15).drop 15).drop 15).drop 15).take 15).any qrec = false := by kernel_rfl
theorem qrec5 : (((((((Tryz.prog.closure 3).drop 15).drop 15).drop 15).drop 15).drop 15).take 15).any qrec = false := by kernel_rfl
theorem qrec6 : ((((((((Tryz.prog.closure 3).drop 15).drop 15).drop 15).drop 15).drop 15).drop 15).take 15).any qrec = false := by kernel_rfl
theorem qrec7 : (((((((((Tryz.prog.closure 3).drop 15).drop 15).drop 15).drop 15).drop 15).drop 15).drop 15).take 15).any qrec = false := by kernel_rfl
theorem qrec8 : ((((((((((Tryz.prog.closure 3).drop 15).drop 15).drop 15).drop 15).drop 15).drop 15).drop 15).drop 15).take 15).any qrec = false := by kernel_rfl
theorem qrec9 : (((((((((((Tryz.prog.closure 3).drop 15).drop 15).drop 15).drop 15).drop 15).drop 15).drop 15).drop 15).drop 15).take 15).any qrec = false := by kernel_rfl
theorem qrec10 : (((((((((((Tryz.prog.closure 3).drop 15).drop 15).drop 15).drop 15).drop 15).drop 15).drop 15).drop 15).drop 15).drop 15).any qrec = false := by kernel_rfl
theorem unf_ : Tryz.prog.unfollowed 3 = false := by kernel_rfl
theorem rec_ : Tryz.prog.recurses 3 = false := by
  unfold Program.recurses
  rw [unf_, Bool.false_or]
  exact any_drop 15 qrec0 (any_drop 15 qrec1 (any_drop 15 qrec2 (any_drop 15 qrec3 (any_drop 15 qrec4 (any_drop 15 qrec5 (any_drop 15 qrec6 (any_drop 15 qrec7 (any_drop 15 qrec8 (any_drop 15 qrec9 (qrec10))))))))))
set_option maxRecDepth 100000 in
theorem closed_ : joinedFacts Tryz.prog 3 Tryz.f3 (OpenSpec.ofChange Rows.wholeSmugglingSpec).bare Rows.wholeSmugglingRow = true := by
  unfold joinedFacts
  rw [rec_, unf_]
  kernel_rfl
theorem said : Rows.WholeSmugglingSaid :=
  OpenClaim.holds_of_cond 3 Tryz.f3 rfl rfl rfl rfl rfl rfl rfl ⟨rfl, rfl, rfl, rfl, rfl⟩ rfl rfl rfl rfl rfl (by kernel_rfl) Tryz.func3 closed_
    (of_decide_eq_true (by kernel_rfl)) (by unfold Func.isWrapper; first | (rw [if_pos (by decide +kernel)]; kernel_rfl) | (rw [if_neg (by decide +kernel)]; exact ⟨rfl, rfl⟩))
    (fun os started H enc _ F => by rw [OpenClaim.pre_eq_preRow]; exact lifted os started H enc F)
theorem plain (f : FuncId) (fn : Func) (hf : Tryz.pinned.checked.prog.funcNamed "quayside/quaysidetop.WholeSmuggling" = some f) (hfn : Tryz.pinned.checked.prog.funcs[f]? = some fn) :
    true = Tryz.pinned.checked.prog.looks [] ∧ ∀ (j : Nat) t, fn.params[j]? = some t → Tryz.pinned.checked.prog.wantsStandIn t = false := by
  obtain rfl : f = 3 := Option.some.inj ((show Tryz.prog.funcNamed "quayside/quaysidetop.WholeSmuggling" = some 3 by kernel_rfl).symm.trans hf) |>.symm
  obtain rfl : fn = Tryz.f3 := (Option.some.inj (Tryz.func3.symm.trans hfn)).symm
  refine ⟨by kernel_rfl, fun j t ht => ?_⟩
  rw [Tryz.params3] at ht
  have hm := Array.mem_of_getElem? ht
  simp at hm
  first | (subst hm; exact (show Tryz.prog.wantsStandIn _ = false by kernel_rfl)) | (rcases hm with rfl | rfl <;> exact (show Tryz.prog.wantsStandIn _ = false by kernel_rfl)) | (rcases hm with rfl | rfl | rfl <;> exact (show Tryz.prog.wantsStandIn _ = false by kernel_rfl))
theorem card : Rows.WholeSmugglingCardSaid :=
  Claim7.holds_tied_plain_at .later [] _ _ _ _ said (fun _ h => by cases h) (by kernel_rfl) (fun _ h => by cases h) wholeSmuggling_row_tie rfl ⟨rfl, rfl⟩ (by kernel_rfl) rfl plain (by kernel_rfl)
end Go.Proofs.YtjffffpfejmoiaaGreatDoor.wholeSmuggling
