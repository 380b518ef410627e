import Derived.Test.YtibcbaghgpemfaaGreatDoorNWriteP
namespace Go.Proofs.YtibcbaghgpemfaaGreatDoor
open Go.RowKit Syn Hd Fr Ck
namespace Cn
theorem Live.flag {w w' : World} {g : Nat} {F : Nat → Prop} {c : C} {vm vb vd : Value} {kv lv : Int} (h : Live w g F c vm vb kv lv vd) (hk : Kp (· = g) w w') : Live w' g F { c with closed:=true,body:=false } vm vb kv lv vd:=by
 have h':=h.kp hk (fun k _ h e => h e); obtain ⟨A,cap,e1,e2,-⟩:=h'.nil
 exact ⟨h'.meth,h'.methF,h'.few,⟨A,cap,e1,e2,fun h => (by cases h)⟩,h'.buf,h'.bufF,h'.many,fun h => (by cases h),fun h => (by cases h)⟩
end Cn
set_option maxRecDepth 100000 in
set_option maxHeartbeats 16000000 in
theorem close_any {c : Cn.C} {w : World} {g : Nat} {F : Nat → Prop} (hA : Cn.At w g F c) (hm : c.buf.length ≤ 1000000) :
  Calls Tryz.prog 39 #[.pointer (some ⟨g,0,none⟩)] w (Cn.WriteR w g F (Cn.close c)):=by
 obtain ⟨hF,hlt,vm,vb,kv,lv,vd,hB,hL⟩:=id hA; have hgl:=hB.lt; have hdr:=Hj (fun (e : Value) (he : e = errV c.err) => show Cn.WriteR w g F (c,[]) (.returned (.tuple #[.slice Option.none 0 0,e])) w.drew from Cn.WriteR.none (hA.kp ((Kp.refl (fun _ => False) w).drew) (fun _ _ h => h)) ((Kp.refl F w).drew) he); by_cases h0 : c.err = 0
 ·have hev : errV c.err = .nilIface:=by rw [h0]; rfl
  rw [hev] at hB
  have hLv:=hL h0; obtain ⟨A,cap,rfl,-,-⟩:=hLv.nil
  cases hcl : c.closed with
  | true =>
   have hC : Blk w g 107 #[.bool c.resp,.bool true,.bool c.body,vm,.int .i64 (c.many : Int),.slice A c.buf.length cap,.int .i64 kv,.int .i64 lv,vd,.nilIface]:=by have h:=hB; unfold Cn.cells at h; rw [hcl] at h; exact h
   rw [show Cn.close c = (c,[]) from if_pos (.inr hcl)]
   have c9:=hC.cell 9; have c1:=hC.cell 1; clear hB hL hA hLv; replace hC:=Hj hC; replace h0:=Hj h0; replace hcl:=Hj hcl; replace hev:=Hj hev; go_enter Tryz.func39,Tryz.ntmps39
   go_wp2; go_region
   go_wp2; go_ret2
   exact hdr.out _ hev.out.symm
  | false =>
   have hnc : ¬ (c.err ≠ 0 ∨ c.closed = true):=by rintro (h | h); exact h h0; rw [hcl] at h; cases h
   by_cases hb4 : c.body = true ∧ c.kind = 4
   ·have hC : Blk w g 107 #[.bool c.resp,.bool false,.bool true,vm,.int .i64 (c.many : Int),.slice A c.buf.length cap,.int .i64 4,.int .i64 lv,vd,.nilIface]:=by
     have h:=hB; unfold Cn.cells at h; rw [hcl,hb4.1,(hLv.frame hb4.1).1,hb4.2] at h; exact h
    have hcs : Cn.close c = ({ c with closed:=true,body:=false },[Cn.evEnd []]):=by unfold Cn.close; rw [if_neg hnc,if_pos hb4]
    rw [hcs]
    replace hcs:=Hj hcs; have hk6:=((Kp.refl (· = g) w).set_ (g:=g) (fun _ => rfl) 1 (.bool true)).set_ (g:=g) (fun _ => rfl) 2 (.bool false); have hC6 : Blk _ g 107 #[.bool c.resp,.bool true,.bool false,vm,.int .i64 (c.many : Int),.slice A c.buf.length cap,.int .i64 4,.int .i64 lv,vd,.nilIface]:=(hC.set_ 1 (.bool true)).set_ 2 (.bool false)
    have hA6 : Cn.At ((w.setCell ⟨g,1,none⟩ (.bool true)).setCell ⟨g,2,none⟩ (.bool false)) g F { c with closed:=true,body:=false } :=
     ⟨hF,fun k h => Nat.lt_of_lt_of_le (hlt k h) hk6.size,vm,_,kv,lv,vd,by show Blk _ g _ (Cn.cells _ vm _ kv lv vd (errV c.err)); rw [hev,(hLv.frame hb4.1).1,hb4.2]; exact hC6,fun _ => hLv.flag hk6⟩
    have c9:=hC.cell 9; have c1:=hC.cell 1; have c2:=hC.cell 2; have c6:=hC.cell 6; have cf1:=hC.frozen 1; have cf2:=hC.frozen 2; clear hB hL hA hLv hdr; replace hC:=Hj hC; replace h0:=Hj h0; replace hcl:=Hj hcl; replace hev:=Hj hev; replace hnc:=Hj hnc; replace hb4:=Hj hb4; go_enter Tryz.func39,Tryz.ntmps39
    go_upto_region 7 with (fail)
    generalize (w.setCell ⟨g,1,none⟩ (.bool true)).setCell ⟨g,2,none⟩ (.bool false) = w6 at *; clear c9 c1 c2 c6 cf1 cf2; go_wp2; go_ret2
    have hk7:=(Kp.refl (fun _ => False) w6).alloc (.cells #[.int .i64 3,.string ⟨#[]⟩,.string ⟨#[]⟩,.slice none 0 0,.int .i64 0,.slice none 0 0,.slice none 0 0,.slice none 0 0] 79); have hsz:=hk6.size; refine ⟨_,F,_,by rw [show errV (({ c with closed:=true,body:=false } : Cn.C)).err = .nilIface from hev.out]; rfl,.one (Cn.evC_end (L:=[]) (Rd.nil _ 2) (On.nil _)),rd_one8 w6 _ _ _ _ _ _ _ _ _,fun k hk => ?_,fun k h => .inl h,(hk6.mono (fun k _ e => e ▸ hF)).trans (hk7.mono (fun _ _ h => h.elim)),hA6.kp hk7 (fun _ _ h => h)⟩
    cases hk
    exact ⟨hsz,by rw [alloc_size']; exact Nat.lt_succ_self _,fun hf => by have h1:=hlt _ hf; have h2 : w.heap.size ≤ w6.heap.size:=hsz; exact absurd h1 (Nat.not_lt.2 h2)⟩
   ·by_cases hbb : c.body = true ∨ c.buf ≠ []
    ·have hcs : Cn.close c = ({ c with err:=21 },[]):=by unfold Cn.close; rw [if_neg hnc,if_neg hb4,if_pos hbb]
     rw [hcs]
     replace hcs:=Hj hcs; have hA6:=Hj (hA.set_err (n:=21) (by decide)); have hk6:=Hj ((Kp.refl F w).set_ (g:=g) (fun _ => hF) 9 (.iface 76 (.int .i64 21))); rcases Bool.eq_false_or_eq_true c.body with hbd | hbd
     ·skip
      have hC : Blk w g 107 #[.bool c.resp,.bool false,.bool true,vm,.int .i64 (c.many : Int),.slice A c.buf.length cap,.int .i64 kv,.int .i64 lv,vd,.nilIface]:=by
       have h:=hB; unfold Cn.cells at h; rw [hcl,hbd] at h; exact h
      have q4 : (kv == 4) = false:=by
       rw [(hLv.frame hbd).1]
       exact beq_false_of_ne (fun e => hb4 ⟨hbd,by omega⟩)
      have c9:=hC.cell 9; have c1:=hC.cell 1; have c2:=hC.cell 2; have c5:=hC.cell 5; have c6:=hC.cell 6; have cf9:=hC.frozen 9; have hC6:=Hj (hC.set_ 9 (.iface 76 (.int .i64 21))); clear hB hL hA hLv hdr; replace hC:=Hj hC; replace h0:=Hj h0; replace hcl:=Hj hcl; replace hev:=Hj hev; replace hnc:=Hj hnc; replace hb4:=Hj hb4; replace hbb:=Hj hbb; replace hbd:=Hj hbd; go_enter Tryz.func39,Tryz.ntmps39
      go_upto_region 10 with (fail)
      generalize w.setCell ⟨g,9,none⟩ (.iface 76 (.int .i64 21)) = w6 at *; clear c9 c1 c2 c5 c6 cf9; have c9 : w6.cell? ⟨g,9,none⟩ = some (.iface 76 (.int .i64 21)):=hC6.out.cell 9
      go_wp2; go_region
      go_wp2; go_ret2
      exact Cn.WriteR.none (hA6.out.kp ((Kp.refl (fun _ => False) w6).drew) (fun _ _ h => h)) hk6.out.drew rfl
     ·skip
      have hC : Blk w g 107 #[.bool c.resp,.bool false,.bool false,vm,.int .i64 (c.many : Int),.slice A c.buf.length cap,.int .i64 kv,.int .i64 lv,vd,.nilIface]:=by
       have h:=hB; unfold Cn.cells at h; rw [hcl,hbd] at h; exact h
      have hbn : c.buf ≠ []:=hbb.elim (fun h => by rw [hbd] at h; cases h) id
      have q5 : (0 : Int) < (c.buf.length : Int):=by have:=List.length_pos_iff.2 hbn; omega
      replace hbn:=Hj hbn; have c9:=hC.cell 9; have c1:=hC.cell 1; have c2:=hC.cell 2; have c5:=hC.cell 5; have c6:=hC.cell 6; have cf9:=hC.frozen 9; have hC6:=Hj (hC.set_ 9 (.iface 76 (.int .i64 21))); clear hB hL hA hLv hdr; replace hC:=Hj hC; replace h0:=Hj h0; replace hcl:=Hj hcl; replace hev:=Hj hev; replace hnc:=Hj hnc; replace hb4:=Hj hb4; replace hbb:=Hj hbb; replace hbd:=Hj hbd; go_enter Tryz.func39,Tryz.ntmps39
      go_upto_region 10 with (fail)
      generalize w.setCell ⟨g,9,none⟩ (.iface 76 (.int .i64 21)) = w6 at *; clear c9 c1 c2 c5 c6 cf9; have c9 : w6.cell? ⟨g,9,none⟩ = some (.iface 76 (.int .i64 21)):=hC6.out.cell 9
      go_wp2; go_region
      go_wp2; go_ret2
      exact Cn.WriteR.none (hA6.out.kp ((Kp.refl (fun _ => False) w6).drew) (fun _ _ h => h)) hk6.out.drew rfl
    ·have hbd : c.body = false:=by cases h : c.body with | false => rfl | true => exact absurd (.inl h) hbb
     have hbn : c.buf = []:=Decidable.byContradiction fun h => hbb (.inr h)
     have hcs : Cn.close c = ({ c with closed:=true },[]):=by unfold Cn.close; rw [if_neg hnc,if_neg hb4,if_neg hbb]
     have hcs2 : ({ c with closed:=true } : Cn.C) = { c with closed:=true,body:=false }:=by rw [← hbd]
     rw [hcs,hcs2]
     replace hcs:=Hj hcs; replace hcs2:=Hj hcs2; have hC : Blk w g 107 #[.bool c.resp,.bool false,.bool false,vm,.int .i64 (c.many : Int),.slice A c.buf.length cap,.int .i64 kv,.int .i64 lv,vd,.nilIface]:=by
      have h:=hB; unfold Cn.cells at h; rw [hcl,hbd] at h; exact h
     have hk6:=(Kp.refl (· = g) w).set_ (g:=g) (fun _ => rfl) 1 (.bool true); have hC6 : Blk _ g 107 #[.bool c.resp,.bool true,.bool false,vm,.int .i64 (c.many : Int),.slice A c.buf.length cap,.int .i64 kv,.int .i64 lv,vd,.nilIface]:=hC.set_ 1 (.bool true)
     have hA6 : Hid (Cn.At (w.setCell ⟨g,1,none⟩ (.bool true)) g F { c with closed:=true,body:=false }) :=
      ⟨hF,fun k h => Nat.lt_of_lt_of_le (hlt k h) hk6.size,vm,_,kv,lv,vd,by show Blk _ g _ (Cn.cells _ vm _ kv lv vd (errV c.err)); rw [hev]; exact hC6,fun _ => hLv.flag hk6⟩
     have hkF:=Hj (hk6.mono (F:=F) (fun k _ e => e ▸ hF)); have q5 : ¬ (0 : Int) < (c.buf.length : Int):=by rw [hbn]; decide
     have c9:=hC.cell 9; have c1:=hC.cell 1; have c2:=hC.cell 2; have c5:=hC.cell 5; have cf1:=hC.frozen 1; clear hB hL hA hLv hdr hk6 hC6; replace hC:=Hj hC; replace h0:=Hj h0; replace hcl:=Hj hcl; replace hev:=Hj hev; replace hnc:=Hj hnc; replace hb4:=Hj hb4; replace hbb:=Hj hbb; replace hbd:=Hj hbd; replace hbn:=Hj hbn; go_enter Tryz.func39,Tryz.ntmps39
     go_wp2; go_ret2
     exact Cn.WriteR.none hA6.out hkF.out hev.out.symm
 ·have hev : errV c.err = .iface 76 (.int .i64 c.err):=if_neg h0
  rw [hev] at hB
  have c9 : w.cell? ⟨g,9,none⟩ = some (.iface 76 (.int .i64 c.err)):=hB.cell 9
  rw [show Cn.close c = (c,[]) from if_pos (.inl h0)]
  clear hB hL hA; replace h0:=Hj h0; replace hev:=Hj hev; go_enter Tryz.func39,Tryz.ntmps39
  go_wp2; go_region
  go_wp2; go_ret2
  exact hdr.out _ hev.out.symm
end Go.Proofs.YtibcbaghgpemfaaGreatDoor
