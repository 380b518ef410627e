import Derived.Test.YtibcbaghgpemfaaGreatDoorGDf
import Derived.Test.YtibcbaghgpemfaaGreatDoorLaid2
import Derived.Test.YtibcbaghgpemfaaGreatDoorHShape
import Derived.Test.YtibcbaghgpemfaaGreatDoorCards
import Derived.Test.YtibcbaghgpemfaaGreatDoorTie
import Derived.Deep.DeepHandedRow
import Derived.Lib.LaidTab
import Derived.ShutString
import Derived.ChangeOld
import Derived.Below
import Derived.SizedLaws
namespace Go.Proofs.YtibcbaghgpemfaaGreatDoor.connResponses
open Go.ChangeShapes Go.WideShapes Go.ChangeAt Go.RowKit Syn Hd Ck
open Go.ChangeMaps (open_string shut_string)
theorem conresp_any (u : Value) (ms : List (List UInt8)) (v : Value) (ts : List (List UInt8)) (W0 : World) (hm : Rd W0 1 u ms.length (strs ms)) (hR : Rd W0 1 v ts.length (strs ts)) (hT : ∀ t ∈ ts,t.length ≤ 140737488355328) (hN : ts.length ≤ 140737488355328) (hM : MaxL W0) :
  Calls Tryz.prog 10 #[u,v] W0 fun e w' => e = .returned (.bool true) ∧ Below W0.heap.size W0 w':=by
 obtain ⟨A,cap,rfl,-,-,-⟩:=id hR; obtain ⟨Am,cm,rfl,-,-,-⟩:=id hm; exact conresp_walk ms Am cm ts A cap W0 hm hR hT hN hM
set_option maxRecDepth 100000 in
theorem contract (H : Type) (enc : TypeId × Value → H) (W : World) (base : Nat) (args : Array Value) (ds gs : List (DataW H)) (before : List MemPlace)
  (hval0 : ∀ (j : Nat) t v,Tryz.f10.params[j]? = some t → args[j]? = some v → Value.okWide Tryz.prog W .any base t v)
  (hW : DataW.Whole enc Tryz.prog Tryz.f10.params.toList Rows.connResponsesSpec.vars false W args.toList ds gs before)
  (hz : (DataW.weightsEach Tryz.prog (Tryz.f10.params.toList ++ (OpenSpec.ofChange Rows.connResponsesSpec).bare.plain.varTypes Tryz.prog) (ds ++ gs)).all (· ≤ reachBytes) = true)
  (hL : laidMet Tryz.prog Rows.connResponsesRow.laid W) (hSh : W.ShapedOpen Tryz.prog) :
  Calls Tryz.prog 10 args W fun e W' => ∃ v,e = .returned v ∧ Rows.connResponsesSpec.post enc Tryz.prog Tryz.f10 false true false false W args v W':=by
 have hval : ∀ (j : Nat) t v,Tryz.f10.params[j]? = some t → args[j]? = some v → Value.okWide Tryz.prog W .any base t v:=hval0
 have hW':=hW; obtain ⟨p,q,hA0,hV,rfl,hfz,hnd⟩:=hW
 have hA : DataW.TrodAll enc Tryz.prog W 0 (fun _ => true) true Tryz.f10.params.toList args.toList ds p:=hA0
 rw [Tryz.params10] at hA hval hz
 obtain ⟨v0,vs0,d0,ds0,p0,q0,hargs,rfl,rfl,h0,r0⟩:=trodAll_cons hA
 obtain ⟨v1,vs1,d1,ds1,p1,q1,rfl,rfl,rfl,h1,r1⟩:=trodAll_cons r0
 obtain ⟨rfl,rfl,rfl⟩:=trodAll_nil r1
 obtain rfl : args = #[v0,v1]:=by cases args; simp_all
 obtain ⟨rfl,rfl⟩:=trodVars_none hV
 have k0:=h0; have lt0 : ∀ x ∈ p0,x.block < W.heap.size:=by obtain ⟨m,hm⟩:=k0; exact DataW.trod_lt m _ _ _ hm
 have k1:=h1; have lt1 : ∀ x ∈ p1,x.block < W.heap.size:=by obtain ⟨m,hm⟩:=k1; exact DataW.trod_lt m _ _ _ hm
 have hw0 : ∀ n ∈ d0.weights Tryz.prog 22,n ≤ reachBytes:=fun n hn => by
  have:=List.all_eq_true.1 hz n (DataW.weights_mem_each (j:=0) rfl rfl n hn)
  simpa using this
 have hw1 : ∀ n ∈ d1.weights Tryz.prog 22,n ≤ reachBytes:=fun n hn => by
  have:=List.all_eq_true.1 hz n (DataW.weights_mem_each (j:=1) rfl rfl n hn)
  simpa using this
 obtain ⟨ts0,R0,-,-⟩:=texts_in2 (hval 0 22 v0 rfl rfl) h0 hw0
 obtain ⟨ts1,R1,T1,N1⟩:=texts_in2 (hval 1 22 v1 rfl rfl) h1 hw1
 clear hA0 hval0; have hM:=maxl_of hSh; have _:=hL; refine (conresp_any v0 ts0 v1 ts1 W R0 R1 T1 N1 hM).mono fun e W' ⟨he,bel⟩ => ?_
 subst he; exact ⟨_,rfl,_,_,_,[],_,[],hW',trodAll_mk1 (shut_bool Tryz.underlying4 _),(trodAll_cons_mk (Below.trod laidOut (by kernel_rfl) (of_decide_eq_true (by kernel_rfl)) k0 bel lt0) (trodAll_cons_mk (Below.trod laidOut (by kernel_rfl) (of_decide_eq_true (by kernel_rfl)) k1 bel lt1) trodAll_mk0)),rfl,bel.frame _,fun h => by cases h⟩
theorem laid_met (os : Os) : laidMet Tryz.prog Rows.connResponsesRow.laid ((laidWorld5 os).forCall (fun _ _ => 0) ⟨#[],#[.slice none 0 0,.slice none 0 0],[]⟩).memory :=
 laidMet_of_run' 8 (by kernel_rfl) (by kernel_rfl)
theorem reads (os : Os) {H : Type} (enc : TypeId × Value → H) : ∃ places,DataW.whole enc Tryz.prog ((laidWorld5 os).forCall (fun _ _ => 0) ⟨#[],#[.slice none 0 0,.slice none 0 0],[]⟩).memory Tryz.f10.params.toList Rows.connResponsesSpec.vars false #[Value.slice none 0 0,Value.slice none 0 0].toList 8 = some ([.nil,.nil],[],places) :=
 ⟨[],by kernel_rfl⟩
set_option maxRecDepth 100000 in
theorem lifted (os : Os) (started : os.Started) (H : Type) (enc : TypeId × Value → H) (F : Stop.Interp) :
  ReturnsInHanded {} Tryz.checked os 10 .any ((OpenSpec.ofChange Rows.connResponsesSpec).preRow enc Tryz.prog Tryz.f10 Rows.connResponsesRow.domain false Rows.connResponsesRow.laid) (((OpenSpec.ofChange Rows.connResponsesSpec).at F).post enc Tryz.prog Tryz.f10 false true false false):=by
 obtain ⟨places,hx⟩:=reads os enc
 refine returnsInHanded_of_row (C:=Tryz.checked) (s:=OpenSpec.ofChange Rows.connResponsesSpec) own started (by kernel_rfl) Tryz.func10
  (witness_row_at (enc:=enc) (C:=Tryz.checked) false (laidWorld5 os) #[.slice none 0 0,.slice none 0 0] rfl (by kernel_rfl) (by kernel_rfl) (by kernel_rfl)
   (OpenSpec.preRow_of_cond 8 hx (by kernel_rfl) (fun k hk => by cases hk) (by kernel_rfl) (laid_met os))) ?_
 intro W base args ds gs before hval hW _ _ hz hL hSh _; exact contract H enc W base args ds gs before hval hW hz hL hSh
noncomputable def qrec (g : FuncId) : Bool:=((Tryz.prog.funcs[g]?).elim [] Tryz.prog.leadsTo).any fun h => (Tryz.prog.closure h).contains g
theorem any_drop {q : FuncId → Bool} {l : List FuncId} (n : Nat) (h1 : (l.take n).any q = false) (h2 : (l.drop n).any q = false) : l.any q = false:=by rw [← List.take_append_drop n l,List.any_append,h1,h2]; rfl
theorem qrec0 : ((Tryz.prog.closure 10).take 15).any qrec = false:=by kernel_rfl
theorem qrec1 : (((Tryz.prog.closure 10).drop 15).take 15).any qrec = false:=by kernel_rfl
theorem qrec2 : ((((Tryz.prog.closure 10).drop 15).drop 15).take 15).any qrec = false:=by kernel_rfl
theorem qrec3 : (((((Tryz.prog.closure 10).drop 15).drop 15).drop 15).take 15).any qrec = false:=by kernel_rfl
theorem qrec4 : ((((((Tryz.prog.closure 10).drop 15).drop 15).drop 15).drop 15).take 15).any qrec = false:=by kernel_rfl
theorem qrec5 : (((((((Tryz.prog.closure 10).drop 15).drop 15).drop 15).drop 15).drop 15).take 15).any qrec = false:=by kernel_rfl
theorem qrec6 : ((((((((Tryz.prog.closure 10).drop 15).drop 15).drop 15).drop 15).drop 15).drop 15).take 15).any qrec = false:=by kernel_rfl
theorem qrec7 : (((((((((Tryz.prog.closure 10).drop 15).drop 15).drop 15).drop 15).drop 15).drop 15).drop 15).take 15).any qrec = false:=by kernel_rfl
theorem qrec8 : ((((((((((Tryz.prog.closure 10).drop 15).drop 15).drop 15).drop 15).drop 15).drop 15).drop 15).drop 15).take 15).any qrec = false:=by kernel_rfl
theorem qrec9 : (((((((((((Tryz.prog.closure 10).drop 15).drop 15).drop 15).drop 15).drop 15).drop 15).drop 15).drop 15).drop 15).take 15).any qrec = false:=by kernel_rfl
theorem qrec10 : (((((((((((Tryz.prog.closure 10).drop 15).drop 15).drop 15).drop 15).drop 15).drop 15).drop 15).drop 15).drop 15).drop 15).any qrec = false:=by kernel_rfl
theorem unf_ : Tryz.prog.unfollowed 10 = false:=by kernel_rfl
theorem rec_ : Tryz.prog.recurses 10 = false:=by
 unfold Program.recurses
 rw [unf_,Bool.false_or]
 exact any_drop 15 qrec0 (any_drop 15 qrec1 (any_drop 15 qrec2 (any_drop 15 qrec3 (any_drop 15 qrec4 (any_drop 15 qrec5 (any_drop 15 qrec6 (any_drop 15 qrec7 (any_drop 15 qrec8 (any_drop 15 qrec9 (qrec10))))))))))
set_option maxRecDepth 100000 in
theorem closed_ : joinedFacts Tryz.prog 10 Tryz.f10 (OpenSpec.ofChange Rows.connResponsesSpec).bare Rows.connResponsesRow = true:=by
 unfold joinedFacts
 rw [rec_,unf_]
 kernel_rfl
theorem said : Rows.ConnResponsesSaid :=
 OpenClaim.holds_of_cond 10 Tryz.f10 rfl rfl rfl rfl rfl rfl rfl ⟨rfl,rfl,rfl,rfl,rfl⟩ rfl rfl rfl rfl rfl (by kernel_rfl) Tryz.func10 closed_
  (of_decide_eq_true (by kernel_rfl)) (by unfold Func.isWrapper; first | (rw [if_pos (by decide +kernel)]; kernel_rfl) | (rw [if_neg (by decide +kernel)]; exact ⟨rfl,rfl⟩))
  (fun os started H enc _ F => by rw [OpenClaim.pre_eq_preRow]; exact lifted os started H enc F)
theorem plain (f : FuncId) (fn : Func) (hf : Tryz.pinned.checked.prog.funcNamed "quayside/quaysidelaw08.ConnResponses" = some f) (hfn : Tryz.pinned.checked.prog.funcs[f]? = some fn) :
  true = Tryz.pinned.checked.prog.looks [] ∧ ∀ (j : Nat) t,fn.params[j]? = some t → Tryz.pinned.checked.prog.wantsStandIn t = false:=by
 obtain rfl : f = 10:=Option.some.inj ((show Tryz.prog.funcNamed "quayside/quaysidelaw08.ConnResponses" = some 10 by kernel_rfl).symm.trans hf) |>.symm
 obtain rfl : fn = Tryz.f10:=(Option.some.inj (Tryz.func10.symm.trans hfn)).symm
 refine ⟨by kernel_rfl,fun j t ht => ?_⟩
 rw [Tryz.params10] at ht
 have hm:=Array.mem_of_getElem? ht; simp at hm
 first | (subst hm; exact (show Tryz.prog.wantsStandIn _ = false by kernel_rfl)) | (rcases hm with rfl | rfl <;> exact (show Tryz.prog.wantsStandIn _ = false by kernel_rfl))
theorem card : Rows.ConnResponsesCardSaid :=
 Claim7.holds_tied_plain_at .later [] _ _ _ _ said (fun _ h => by cases h) (by kernel_rfl) (fun _ h => by cases h) connResponses_row_tie rfl ⟨rfl,rfl⟩ (by kernel_rfl) rfl plain (by kernel_rfl)
end Go.Proofs.YtibcbaghgpemfaaGreatDoor.connResponses
