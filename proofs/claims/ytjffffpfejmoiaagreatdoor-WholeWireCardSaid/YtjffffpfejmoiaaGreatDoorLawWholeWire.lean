import Derived.Test.YtjffffpfejmoiaaGreatDoorNWireW
import Derived.Test.YtjffffpfejmoiaaGreatDoorGXd
import Derived.Test.YtjffffpfejmoiaaGreatDoorCIn
import Derived.Test.YtjffffpfejmoiaaGreatDoorGXa
import Derived.Test.YtjffffpfejmoiaaGreatDoorGXz
import Derived.Test.YtjffffpfejmoiaaGreatDoorCards
import Derived.Test.YtjffffpfejmoiaaGreatDoorTie
import Derived.Deep.DeepHandedRow
import Derived.Lib.LaidTab
import Derived.ShutString
import Derived.ChangeOld
import Derived.Below
import Derived.SizedLaws
namespace Go.Proofs.YtjffffpfejmoiaaGreatDoor.wholeWire
open Go.ChangeShapes Go.WideShapes Go.ChangeAt Go.RowKit Syn Hd Ck
open Go.ChangeMaps (open_string shut_string)
theorem wire_card (v0 v1 v2 : Value) (l : List Cn.Msg) (zs ys : List UInt8) (W0 : World) (h0 : Cn.MsC W0 v0 l) (h1 : Rd W0 1 v1 zs.length (u8s zs)) (h2 : Rd W0 1 v2 ys.length (u8s ys)) (hB : ∀ M ∈ l,Cn.MB M) (hM : MaxL W0) (hT : W0.cell? ⟨5,15,none⟩ = some (.int .u8 4)) :
  Calls Tryz.prog 4 #[v0,v1,v2] W0 fun e w' => e = .returned (.bool true) ∧ Below W0.heap.size W0 w':=by
 obtain ⟨A1,c1,rfl,-,-,-⟩:=id h1; obtain ⟨A2,c2,rfl,-,-,-⟩:=id h2; exact wire_walk l v0 zs ys A1 A2 c1 c2 W0 h0 hB h1 h2 hM hT
set_option maxRecDepth 100000 in
theorem contract (H : Type) (enc : TypeId × Value → H) (W : World) (base : Nat) (args : Array Value) (ds gs : List (DataW H)) (before : List MemPlace)
  (hval0 : ∀ (j : Nat) t v,Tryz.f4.params[j]? = some t → args[j]? = some v → Value.okWide Tryz.prog W .any base t v)
  (hW : DataW.Whole enc Tryz.prog Tryz.f4.params.toList Rows.wholeWireSpec.vars false W args.toList ds gs before)
  (hz : (DataW.weightsEach Tryz.prog (Tryz.f4.params.toList ++ (OpenSpec.ofChange Rows.wholeWireSpec).bare.plain.varTypes Tryz.prog) (ds ++ gs)).all (· ≤ reachBytes) = true)
  (hL : laidMet Tryz.prog Rows.wholeWireRow.laid W) (hSh : W.ShapedOpen Tryz.prog) :
  Calls Tryz.prog 4 args W fun e W' => ∃ v,e = .returned v ∧ Rows.wholeWireSpec.post enc Tryz.prog Tryz.f4 false true false false W args v W':=by
 have hval : ∀ (j : Nat) t v,Tryz.f4.params[j]? = some t → args[j]? = some v → Value.okWide Tryz.prog W .any base t v:=hval0
 have hW':=hW; obtain ⟨p,q,hA0,hV,rfl,hfz,hnd⟩:=hW
 have hA : DataW.TrodAll enc Tryz.prog W 0 (fun _ => true) true Tryz.f4.params.toList args.toList ds p:=hA0
 rw [Tryz.params4] at hA hval hz
 obtain ⟨v0,vs0,d0,ds0,p0,q0,hargs,rfl,rfl,h0,r0⟩:=trodAll_cons hA
 obtain ⟨v1,vs1,d1,ds1,p1,q1,rfl,rfl,rfl,h1,r1⟩:=trodAll_cons r0
 obtain ⟨v2,vs2,d2,ds2,p2,q2,rfl,rfl,rfl,h2,r2⟩:=trodAll_cons r1
 obtain ⟨rfl,rfl,rfl⟩:=trodAll_nil r2
 obtain rfl : args = #[v0,v1,v2]:=by cases args; simp_all
 obtain ⟨rfl,rfl⟩:=trodVars_none hV
 have k0:=h0; have lt0 : ∀ x ∈ p0,x.block < W.heap.size:=by obtain ⟨m,hm⟩:=k0; exact DataW.trod_lt m _ _ _ hm
 have k1:=h1; have lt1 : ∀ x ∈ p1,x.block < W.heap.size:=by obtain ⟨m,hm⟩:=k1; exact DataW.trod_lt m _ _ _ hm
 have k2:=h2; have lt2 : ∀ x ∈ p2,x.block < W.heap.size:=by obtain ⟨m,hm⟩:=k2; exact DataW.trod_lt m _ _ _ hm
 have hw0 : ∀ n ∈ d0.weights Tryz.prog 44,n ≤ reachBytes:=fun n hn => by
  have:=List.all_eq_true.1 hz n (DataW.weights_mem_each (j:=0) rfl rfl n hn)
  simpa using this
 have hw1 : ∀ n ∈ d1.weights Tryz.prog 23,n ≤ reachBytes:=fun n hn => by
  have:=List.all_eq_true.1 hz n (DataW.weights_mem_each (j:=1) rfl rfl n hn)
  simpa using this
 have hw2 : ∀ n ∈ d2.weights Tryz.prog 23,n ≤ reachBytes:=fun n hn => by
  have:=List.all_eq_true.1 hz n (DataW.weights_mem_each (j:=2) rfl rfl n hn)
  simpa using this
 obtain ⟨l0,R0,B0⟩:=msgs_in (hval 0 44 v0 rfl rfl) h0 hw0
 obtain ⟨l1,R1,N1⟩:=bytes8_in (hval 1 23 v1 rfl rfl) h1 hw1
 obtain ⟨l2,R2,N2⟩:=bytes8_in (hval 2 23 v2 rfl rfl) h2 hw2
 clear hA0 hval0; have hM:=maxl_of hSh; have hT:=cell64 hL; refine (wire_card v0 v1 v2 l0 l1 l2 W R0 R1 R2 B0 hM hT).mono fun e W' ⟨he,bel⟩ => ?_
 subst he; exact ⟨_,rfl,_,_,_,[],_,[],hW',trodAll_mk1 (shut_bool Tryz.underlying4 _),(trodAll_cons_mk (Below.trod laidOut (by kernel_rfl) (of_decide_eq_true (by kernel_rfl)) k0 bel lt0) (trodAll_cons_mk (Below.trod laidOut (by kernel_rfl) (of_decide_eq_true (by kernel_rfl)) k1 bel lt1) (trodAll_cons_mk (Below.trod laidOut (by kernel_rfl) (of_decide_eq_true (by kernel_rfl)) k2 bel lt2) trodAll_mk0))),rfl,bel.frame _,fun h => by cases h⟩
set_option maxRecDepth 100000 in
theorem lifted (os : Os) (started : os.Started) (H : Type) (enc : TypeId × Value → H) (F : Stop.Interp) :
  ReturnsInHanded {} Tryz.checked os 4 .any ((OpenSpec.ofChange Rows.wholeWireSpec).preRow enc Tryz.prog Tryz.f4 Rows.wholeWireRow.domain false Rows.wholeWireRow.laid) (((OpenSpec.ofChange Rows.wholeWireSpec).at F).post enc Tryz.prog Tryz.f4 false true false false):=by
 obtain ⟨places,hx⟩:=reads os enc
 refine returnsInHanded_of_row (C:=Tryz.checked) (s:=OpenSpec.ofChange Rows.wholeWireSpec) own started (by kernel_rfl) Tryz.func4
  (witness_row_at (enc:=enc) (C:=Tryz.checked) false (laidWorld5 os) #[.slice none 0 0,.slice none 0 0,.slice none 0 0] rfl (by kernel_rfl) (by kernel_rfl) (by kernel_rfl)
   (OpenSpec.preRow_of_cond 8 hx (by kernel_rfl) (fun k hk => by cases hk) (by kernel_rfl) (laid_met os))) ?_
 intro W base args ds gs before hval hW _ _ hz hL hSh _; exact contract H enc W base args ds gs before hval hW hz hL hSh
theorem said : Rows.WholeWireSaid :=
 OpenClaim.holds_of_cond 4 Tryz.f4 rfl rfl rfl rfl rfl rfl rfl ⟨rfl,rfl,rfl,rfl,rfl⟩ rfl rfl rfl rfl rfl (by kernel_rfl) Tryz.func4 closed_
  (of_decide_eq_true (by kernel_rfl)) (by unfold Func.isWrapper; first | (rw [if_pos (by decide +kernel)]; kernel_rfl) | (rw [if_neg (by decide +kernel)]; exact ⟨rfl,rfl⟩))
  (fun os started H enc _ F => by rw [OpenClaim.pre_eq_preRow]; exact lifted os started H enc F)
theorem card : Rows.WholeWireCardSaid :=
 Claim7.holds_tied_plain_at .later [] _ _ _ _ said (fun _ h => by cases h) (by kernel_rfl) (fun _ h => by cases h) wholeWire_row_tie rfl ⟨rfl,rfl⟩ (by kernel_rfl) rfl plain (by kernel_rfl)
end Go.Proofs.YtjffffpfejmoiaaGreatDoor.wholeWire
