import Derived.Test.YtjffffpfejmoiaaGreatDoorGXa
import Derived.Test.YtjffffpfejmoiaaGreatDoorCards
import Derived.Test.YtjffffpfejmoiaaGreatDoorTie
import Derived.Deep.DeepHandedRow
import Derived.Lib.LaidTab
import Derived.ShutString
import Derived.ChangeOld
import Derived.Below
import Derived.SizedLaws
namespace Go.Proofs.YtjffffpfejmoiaaGreatDoor.wholeWire
open Go.ChangeShapes Go.WideShapes Go.ChangeAt Go.RowKit
open Go.ChangeMaps (open_string shut_string)
theorem laid_met (os : Os) : laidMet Tryz.prog Rows.wholeWireRow.laid ((laidWorld5 os).forCall (fun _ _ => 0) ⟨#[],#[.slice none 0 0,.slice none 0 0,.slice none 0 0],[]⟩).memory :=
 laidMet_of_run' 8 (by kernel_rfl) (by kernel_rfl)
theorem reads (os : Os) {H : Type} (enc : TypeId × Value → H) : ∃ places,DataW.whole enc Tryz.prog ((laidWorld5 os).forCall (fun _ _ => 0) ⟨#[],#[.slice none 0 0,.slice none 0 0,.slice none 0 0],[]⟩).memory Tryz.f4.params.toList Rows.wholeWireSpec.vars false #[Value.slice none 0 0,Value.slice none 0 0,Value.slice none 0 0].toList 8 = some ([.nil,.nil,.nil],[],places) :=
 ⟨[],by kernel_rfl⟩
noncomputable def qrec (g : FuncId) : Bool:=((Tryz.prog.funcs[g]?).elim [] Tryz.prog.leadsTo).any fun h => (Tryz.prog.closure h).contains g
theorem qin_ : (Tryz.prog.closure 4).contains 33 = true:=by kernel_rfl
theorem qre_ : qrec 33 = true:=by kernel_rfl
theorem unf_ : Tryz.prog.unfollowed 4 = false:=by kernel_rfl
theorem rec_ : Tryz.prog.recurses 4 = true:=by
 unfold Program.recurses
 rw [unf_,Bool.false_or]
 exact List.any_eq_true.2 ⟨33,List.contains_iff_mem.1 qin_,qre_⟩
set_option maxRecDepth 100000 in
theorem closed_ : joinedFacts Tryz.prog 4 Tryz.f4 (OpenSpec.ofChange Rows.wholeWireSpec).bare Rows.wholeWireRow = true:=by
 unfold joinedFacts
 rw [rec_,unf_]
 kernel_rfl
theorem plain (f : FuncId) (fn : Func) (hf : Tryz.pinned.checked.prog.funcNamed "quayside/quaysidetop.WholeWire" = some f) (hfn : Tryz.pinned.checked.prog.funcs[f]? = some fn) :
  true = Tryz.pinned.checked.prog.looks [] ∧ ∀ (j : Nat) t,fn.params[j]? = some t → Tryz.pinned.checked.prog.wantsStandIn t = false:=by
 obtain rfl : f = 4:=Option.some.inj ((show Tryz.prog.funcNamed "quayside/quaysidetop.WholeWire" = some 4 by kernel_rfl).symm.trans hf) |>.symm
 obtain rfl : fn = Tryz.f4:=(Option.some.inj (Tryz.func4.symm.trans hfn)).symm
 refine ⟨by kernel_rfl,fun j t ht => ?_⟩
 rw [Tryz.params4] at ht
 have hm:=Array.mem_of_getElem? ht; simp at hm
 first | (subst hm; exact (show Tryz.prog.wantsStandIn _ = false by kernel_rfl)) | (rcases hm with rfl | rfl <;> exact (show Tryz.prog.wantsStandIn _ = false by kernel_rfl)) | (rcases hm with rfl | rfl | rfl <;> exact (show Tryz.prog.wantsStandIn _ = false by kernel_rfl))
end Go.Proofs.YtjffffpfejmoiaaGreatDoor.wholeWire
