import Derived.Test.YtjffffpfejmoiaaGreatDoorNAwP
import Derived.Test.YtjffffpfejmoiaaGreatDoorGXf
import Derived.Test.YtjffffpfejmoiaaGreatDoorGXe
import Derived.Test.YtjffffpfejmoiaaGreatDoorNNone
import Derived.Test.YtjffffpfejmoiaaGreatDoorGXg
namespace Go.Proofs.YtjffffpfejmoiaaGreatDoor
open Go.RowKit Syn Hd Fr Ck
namespace Cn
def wireB : List UInt8:=[71,69,84,32,47,97,32,72,84,84,80,47,49,46,49,13,10,104,111,115,116,58,32,97,13,10,116,114,97,110,115,102,101,114,45,101,110,99,111,100,105,110,103,58,32,99,104,117,110,107,101,100,13,10,13,10,49,13,10,120,13,10,50,13,10,121,122,13,10,48,13,10,13,10]
def wireF : Flds:=[([104,111,115,116],[97]),([116,114,97,110,115,102,101,114,45,101,110,99,111,100,105,110,103],[99,104,117,110,107,101,100])]
theorem wire_out : ∃ c',write (new false []) wireB = (c',[evReq [71,69,84] [47,97] wireF,evData [120,121,122],evEnd []]) ∧ c'.err = 0 :=
 ⟨(write (new false []) wireB).1,by kernel_rfl,by kernel_rfl⟩
theorem wire_gath : gathered [evReq [71,69,84] [47,97] wireF,evData [120,121,122],evEnd []] = [⟨[71,69,84],[47,97],wireF,[120,121,122],true⟩]:=rfl
end Cn
end Go.Proofs.YtjffffpfejmoiaaGreatDoor
namespace Go.Proofs.YtjffffpfejmoiaaGreatDoor
open Go.RowKit Syn Hd Fr Ck
set_option maxRecDepth 100000 in
set_option maxHeartbeats 8000000 in
theorem wire_any (w : World) (hM : MaxL w) : Calls Tryz.prog 6 #[] w fun e w' => e = .returned (.bool true) ∧ Below w.heap.size w w':=by
 obtain ⟨c',hwr,hce⟩:=Cn.wire_out
 go_enter Tryz.func6,Tryz.ntmps6
 go_wp2_with fail
 refine (newreq_any w).mono ?_
 rintro e w1 ⟨rfl,hw1⟩
 have hA1 : Cn.At w1 w.heap.size (· = w.heap.size) (Cn.new false []):=by rw [hw1]; exact newreq_at w
 have hb1 : Below w.heap.size w w1:=by rw [hw1]; exact (Below.refl _ _).alloc (Nat.le_refl _) _
 clear hw1; obtain ⟨w2,hcv,hRc,hb12⟩:=const_any Cn.wireB w1
 have hcv' : Sem.run Tryz.prog (convert 23 23 (.slice (some ⟨w1.heap.size,0,none⟩) 74 74)) (w1.alloc (.cells #[.int .u8 71,.int .u8 69,.int .u8 84,.int .u8 32,.int .u8 47,.int .u8 97,.int .u8 32,.int .u8 72,.int .u8 84,.int .u8 84,.int .u8 80,.int .u8 47,.int .u8 49,.int .u8 46,.int .u8 49,.int .u8 13,.int .u8 10,.int .u8 104,.int .u8 111,.int .u8 115,.int .u8 116,.int .u8 58,.int .u8 32,.int .u8 97,.int .u8 13,.int .u8 10,.int .u8 116,.int .u8 114,.int .u8 97,.int .u8 110,.int .u8 115,.int .u8 102,.int .u8 101,.int .u8 114,.int .u8 45,.int .u8 101,.int .u8 110,.int .u8 99,.int .u8 111,.int .u8 100,.int .u8 105,.int .u8 110,.int .u8 103,.int .u8 58,.int .u8 32,.int .u8 99,.int .u8 104,.int .u8 117,.int .u8 110,.int .u8 107,.int .u8 101,.int .u8 100,.int .u8 13,.int .u8 10,.int .u8 13,.int .u8 10,.int .u8 49,.int .u8 13,.int .u8 10,.int .u8 120,.int .u8 13,.int .u8 10,.int .u8 50,.int .u8 13,.int .u8 10,.int .u8 121,.int .u8 122,.int .u8 13,.int .u8 10,.int .u8 48,.int .u8 13,.int .u8 10,.int .u8 13,.int .u8 10] 5)) = .ok (.slice (some ⟨w1.heap.size,0,none⟩) 74 74) w2:=hcv
 have hb2:=hb1.trans (hb12.mono hb1.size); have hA2:=hA1.kp ((Kp.refl (fun _ => False) w1).below hb12) (fun _ _ h => h); have hWt:=connwrite_any hA2 Cn.wireB (some ⟨w1.heap.size,0,none⟩) 74 hRc (by decide) (fun w' hk => hM.below (hb2.trans (hk.toBelow hb2.size (fun k e => by rw [e]; exact Nat.le_refl _))))
 rw [hwr] at hWt
 replace hWt : Hid (Calls Tryz.prog 10 #[.pointer (some ⟨w.heap.size,0,none⟩),.slice (some ⟨w1.heap.size,0,none⟩) 74 74] w2 (Cn.WriteR w2 w.heap.size (· = w.heap.size) (c',[Cn.evReq [71,69,84] [47,97] Cn.wireF,Cn.evData [120,121,122],Cn.evEnd []]))):=Hj hWt
 have hz1:=hb1.size; clear hcv hRc hA1 hA2 hwr; replace hb1:=Hj hb1; replace hb2:=Hj hb2; replace hb12:=Hj hb12; replace hM:=Hj hM; go_wp2_with fail
 refine hWt.out.mono ?_
 rintro e w3 ⟨o,F',xs,rfl,hE,hR,hO,hFF,hk,hA3⟩
 rw [show errV c'.err = .nilIface by rw [hce]; rfl]
 have hB3:=Hj (hb2.out.trans (hk.toBelow hb2.out.size (fun k e => by rw [e]; exact Nat.le_refl _)))
 have hGa:=Hj (gathered_any (l:=[Cn.evReq [71,69,84] [47,97] Cn.wireF,Cn.evData [120,121,122],Cn.evEnd []]) o w3 hE (fun k h => h.2.1) hR (by intro e he hk2; simp only [List.mem_cons,List.mem_nil_iff,or_false] at he; rcases he with rfl | rfl | rfl; cases hk2; exact (by decide : ([120,121,122] : List UInt8) ≠ []); cases hk2) (by show 3 ≤ 1000000; decide) (by show 0 + (3 + (0 + 0)) ≤ 4000000; decide))
 clear hE hR hO hFF hk hA3 hce; go_wp2_with fail
 refine hGa.out.mono ?_
 rintro e w4 ⟨v,rfl,hG,hb4⟩
 rw [Cn.wire_gath] at hG
 obtain ⟨ys,hOy,hRq⟩:=hG.all
 obtain ⟨us,⟨vf,vb,rfl,-,-,hbd,-⟩,hux⟩:=hRq.at_ (i:=0) (by decide)
 obtain ⟨g,cap,rfl,-,-,hcell⟩:=own_at5 hOy (by decide)
 obtain ⟨Ab,cb,rfl,-,-,-⟩:=id hbd; have e1 : w4.cell? ⟨g,1,none⟩ = some (.string (str [47,97])):=(hcell 1 _ ((hux 1 (by decide)).trans rfl)).1
 have e3 : w4.cell? ⟨g,3,none⟩ = some (.slice Ab 3 cb):=(hcell 3 _ ((hux 3 (by decide)).trans rfl)).1
 have e4 : w4.cell? ⟨g,4,none⟩ = some (.bool true):=(hcell 4 _ ((hux 4 (by decide)).trans rfl)).1
 have hcv3 : Sem.run Tryz.prog (convert 23 9 (.slice Ab 3 cb)) w4 = .ok (.string (str [120,121,122])) w4:=conv_all (l:=[120,121,122]) hbd
 have q1 : ((str [47,97]).toList == [47,97]) = true:=by rw [str_toList]; rfl
 have q2 : ((str [120,121,122]).toList == [120,121,122]) = true:=by rw [str_toList]; rfl
 have hB4:=Hj (hB3.out.trans (hb4.mono hB3.out.size)); clear hbd hux hcell hRq hOy hG hb4; go_wp2; go_ret; exact ⟨rfl,hB4.out⟩
end Go.Proofs.YtjffffpfejmoiaaGreatDoor
