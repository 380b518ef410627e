import Derived.Test.YtjffffpfejmoiaaGreatDoorNWriteP
import Derived.Test.YtjffffpfejmoiaaGreatDoorNStart
import Derived.Test.YtjffffpfejmoiaaGreatDoorNPart
namespace Go.Proofs.YtjffffpfejmoiaaGreatDoor
open Go.RowKit Syn Hd Fr Ck
theorem u8s_one' (l : List UInt8) : ∀ u ∈ u8s l,u.oneCell' = true:=fun u hu => by
 obtain ⟨x,-,rfl⟩:=List.mem_map.1 hu; rfl
set_option maxRecDepth 100000 in
set_option maxHeartbeats 32000000 in
theorem connwrite_any {c : Cn.C} {w : World} {g : Nat} {F : Nat → Prop} (hA : Cn.At w g F c) (b : List UInt8) (Ab : Option Addr) (cb : Nat) (hRb : Rd w 1 (.slice Ab b.length cb) b.length (u8s b)) (hm : c.buf.length + b.length ≤ 1000000) (hM : ∀ w',Kp F w w' → MaxL w') :
  Calls Tryz.prog 10 #[.pointer (some ⟨g,0,none⟩),.slice Ab b.length cb] w (Cn.WriteR w g F (Cn.write c b)):=by
 obtain ⟨hF,hlt,vm,vb,kv,lv,vd,hB,hL⟩:=id hA; have hgl:=hB.lt; by_cases h0 : c.err = 0
 ·have hev : errV c.err = .nilIface:=by rw [h0]; rfl
  rw [hev] at hB
  obtain ⟨A,cap,rfl,-,-⟩:=(hL h0).nil
  have hB' : Blk w g 73 #[.bool c.resp,.bool c.closed,.bool c.body,vm,.int .i64 (c.many : Int),.slice A c.buf.length cap,.int .i64 kv,.int .i64 lv,vd,.nilIface]:=hB
  replace hB':=Hj hB'; by_cases hbe : b = []
  ·have hwr : Cn.write c b = (c,[]):=by
    unfold Cn.write
    rw [if_pos (.inr hbe)]
    unfold Cn.wrE
    rw [if_neg (fun h => h.2.2 hbe)]
   rw [hwr]
   have q0 : ¬ (0 : Int) < (b.length : Int):=by rw [hbe]; decide
   have q1 : ((b.length : Int) == 0) = true:=by rw [hbe]; rfl
   replace hbe:=Hj hbe; replace hwr:=Hj hwr; replace hA:=Hj hA; replace hev:=Hj hev; clear hB hL hM hRb hlt hF; have c9:=hB'.out.cell 9; have c1:=hB'.out.cell 1; generalize c.closed = cl at *; cases cl with
   | true =>
    go_enter Tryz.func10,Tryz.ntmps10
    go_wp2; go_region
    go_wp2; go_ret2
    exact Cn.WriteR.none (hA.out.kp ((Kp.refl (fun _ => False) w).drew) (fun _ _ h => h)) ((Kp.refl F w).drew) hev.out.symm
   | false =>
    go_enter Tryz.func10,Tryz.ntmps10
    go_wp2; go_region
    go_wp2; go_ret2
    exact Cn.WriteR.none (hA.out.kp ((Kp.refl (fun _ => False) w).drew) (fun _ _ h => h)) ((Kp.refl F w).drew) hev.out.symm
  ·have hbl : 0 < b.length:=List.length_pos_iff.2 hbe
   have q0 : (0 : Int) < (b.length : Int):=by omega
   have q1 : ((b.length : Int) == 0) = false:=beq_false_of_ne (by omega)
   cases hcl : c.closed with
   | true =>
    have hwr : Cn.write c b = ({ c with err:=6 },[]):=by
     have h6 : Cn.wrE c b = 6:=if_pos ⟨h0,hcl,hbe⟩
     unfold Cn.write
     rw [h6,if_pos (.inl (by decide))]
    rw [hwr]
    rw [hcl] at hB'
    replace hwr:=Hj hwr; replace hbe:=Hj hbe; replace hcl:=Hj hcl; replace h0:=Hj h0; have hA6:=Hj (hA.set_err (n:=6) (by decide)); have hk6:=Hj ((Kp.refl F w).set_ (g:=g) (fun _ => hF) 9 (.iface 57 (.int .i64 6))); clear hB hL hM hRb hlt hF hA; have c9:=hB'.out.cell 9; have c1:=hB'.out.cell 1; have cf9:=hB'.out.frozen 9; go_enter Tryz.func10,Tryz.ntmps10
    go_upto_region 5 with (fail)
    have hC6:=Hj (hB'.out.set_ 9 (.iface 57 (.int .i64 6))); generalize w.setCell ⟨g,9,none⟩ (.iface 57 (.int .i64 6)) = w6 at *; clear c9 c1 cf9; have c9 : w6.cell? ⟨g,9,none⟩ = some (.iface 57 (.int .i64 6)):=hC6.out.cell 9
    go_wp2; go_region
    go_wp2; go_ret2
    exact Cn.WriteR.none (hA6.out.kp ((Kp.refl (fun _ => False) w6).drew) (fun _ _ h => h)) hk6.out.drew rfl
   | false =>
    have hwr : Cn.write c b = Cn.R (Cn.app c b):=by
     unfold Cn.write
     have hw0 : Cn.wrE c b = 0:=by unfold Cn.wrE; rw [if_neg (fun h => by rw [hcl] at h; cases h.2.1)]; exact h0
     rw [if_neg (by rintro (h | h); exact h hw0; exact hbe h)]
    rw [hwr]
    rw [hcl] at hB'
    have hLv:=hL h0; have hbuf:=Hj hLv.buf; have hmade:=Hj (World.ownsRow_made (base:=w.heap.size) (size:=1) (e:=5) w #[] 0 (Nat.le_refl _) (Nat.zero_le _) rfl); have hbufA:=Hj (hbuf.out.below ((Below.refl w.heap.size w).alloc (Nat.le_refl _) (.cells #[] 5))); have h1a:=Hj (u8s_one' c.buf); have h1b:=Hj (u8s_one' b); have hnA:=Hj ((Kp.refl (fun _ => False) w).alloc (.cells #[] 5)); replace hRb:=Hj hRb; replace hwr:=Hj hwr; replace hbe:=Hj hbe; replace hlt:=Hj hlt; replace hF:=Hj hF; replace hA:=Hj hA; replace hev:=Hj hev; replace h0:=Hj h0; replace hLv:=Hj hLv; replace hM:=Hj hM; clear hB hL; have c9:=hB'.out.cell 9; have c1:=hB'.out.cell 1; have c5:=(hB'.out.alloc (.cells #[] 5)).cell 5; go_enter Tryz.func10,Tryz.ntmps10
    go_upto_region 8 with (first
     | (at_builtin; refine step_pushR (v:=Value.slice (some ⟨w.heap.size,0,none⟩) 0 0) (n:=0) (m:=c.buf.length) (xs:=[]) (news:=u8s c.buf) (c:=cap) (A:=A) (B:=w.heap.size) 23 5 (.int .u8 0) 1 1 _ _ rfl rfl Tryz.underlying23 infoU8 rfl (by decide) (by decide) rfl hmade.out rfl hbufA.out h1a.out (by omega) (by rw [alloc_size']; omega) ?_; intro v52 w52 ho52 hg52 hat52; rw [Nat.zero_add,List.nil_append] at ho52; have hn52:=Hj (hnA.out.grown hg52 (fun k e hlt => by cases e; exact absurd hlt (Nat.lt_irrefl _))); have hb52:=Hj (hRb.out.kp (fun _ _ h => h) hn52.out); obtain ⟨A52,c52,rfl,-,-,-⟩:=id (Rd.own ho52); replace ho52:=Hj ho52; clear hg52 hat52)
     | (at_builtin; refine step_pushR (v:=Value.slice A52 c.buf.length c52) (n:=c.buf.length) (m:=b.length) (xs:=u8s c.buf) (news:=u8s b) (c:=cb) (A:=Ab) (B:=w.heap.size) 23 5 (.int .u8 0) 1 1 _ _ rfl rfl Tryz.underlying23 infoU8 rfl (by decide) (by decide) rfl ho52.out rfl hb52.out h1b.out (by omega) hn52.out.size ?_; intro v54 w54 ho54 hg54 hat54; have hn54:=Hj (hn52.out.grown hg54 (fun k e hlt => by have:=(World.ownsRow.lt ho52.out k e).1; omega)); obtain ⟨A54,c54,rfl,-,-,-⟩:=id (Rd.own ho54); replace ho54:=Hj ho54; have z5:=(hB'.out.kp (fun h => h) hn54.out).cell 5; have y5:=(hB'.out.kp (fun h => h) hn54.out).frozen 5; clear hg54 hat54))
    have hs:=(Kp.refl (· = g) w54).set_ (g:=g) (fun _ => rfl) 5 (.slice A54 (c.buf.length + b.length) c54); have hk55:=Hj ((hn54.out.mono (F:=(· = g)) (fun _ _ h => h.elim)).trans hs); have hO55 : Own (w54.setCell ⟨g,5,none⟩ (.slice A54 (c.buf.length + b.length) c54)) w.heap.size 5 1 (.slice A54 (c.buf.length + b.length) c54) (c.buf ++ b).length (u8s (c.buf ++ b)):=by
     rw [List.length_append,u8s_app]
     exact ho54.out.kp (fun k hk e => by have:=(World.ownsRow.lt ho54.out k hk).1; omega) hs
    have hC55 : Blk (w54.setCell ⟨g,5,none⟩ (.slice A54 (c.buf.length + b.length) c54)) g 73 #[.bool c.resp,.bool false,.bool c.body,vm,.int .i64 (c.many : Int),.slice A54 (c.buf.length + b.length) c54,.int .i64 kv,.int .i64 lv,vd,.nilIface]:=(hB'.out.kp (fun h => h) hn54.out).set_ 5 _
    have hA55:=Hj (Cn.At.more hLv.out hF.out hlt.out h0.out hk55.out hbe.out (by unfold Cn.cells; rw [hcl]; exact hC55) hO55)
    clear hs hO55 hC55 z5 y5 c9 c1 c5; generalize w54.setCell ⟨g,5,none⟩ (.slice A54 (c.buf.length + b.length) c54) = w55 at *; have hW0 : Hid (Cn.WI w g F (Cn.app c b) (.slice none 0 0) w55 (Cn.app c b) (fun k => F k ∨ (Value.slice A54 (c.buf.length + b.length) c54).ownBlock = some k) [] []):=by
     refine ⟨rfl,rfl,hA55.out,.nil,own_nil _ _ _ _,(fun k h => by cases h),fun k h => h.imp id (fun h => (World.ownsRow.lt ho54.out k h).1),hk55.out.mono (fun k _ e => e ▸ hF.out),?_,?_⟩
     ·show 0 + 2 * (c.buf ++ b).length + _ ≤ _
      rw [List.length_append]
      split <;> omega
     ·show (c.buf ++ b).length ≤ _
      rw [List.length_append]; exact hm
    clear hA55 hk55 ho54 hn54 hn52 ho52 hb52 hbuf hmade hbufA h1a h1b hnA hRb hwr hbe hlt hA hev hLv hB' q0 q1; replace hcl:=Hj hcl; go_wp2; go_loopw [6] (fun o wr => ∃ (c2 : Cn.C) (F2 : Nat → Prop) (l : List Cn.Ev) (xs : List Value),Hid (Cn.WI w g F (Cn.app c b) o wr c2 F2 l xs)) (fun _ wr => Cn.msW wr g)
    case atStart => exact ⟨_,_,[],[],hW0⟩
    case round =>
     obtain ⟨c2,F2,l,xs,hW⟩:=hrel
     clear hW0; obtain ⟨hR1,hR2,hA2,-,hO2,hoff2,hFF2,hk2,hbnd,hbm⟩:=id hW.out; obtain ⟨hF2,hlt2,vm2,vb2,kv2,lv2,vd2,hB2,hL2⟩:=id hA2; obtain ⟨Ao,co,rfl,-,-,-⟩:=id (Rd.own hO2)
     have hgr:=hB2.lt; have hM2:=hM.out wr hk2; by_cases e0 : c2.err = 0
     ·have hev2 : errV c2.err = .nilIface:=by rw [e0]; rfl
      rw [hev2] at hB2
      obtain ⟨A2,cap2,rfl,-,-⟩:=(hL2 e0).nil
      have hms:=Hj (Cn.msW_ok hA2 e0); cases hbd : c2.body with
      | false =>
       have hC2 : Hid (Blk wr g 73 #[.bool c2.resp,.bool c2.closed,.bool false,vm2,.int .i64 (c2.many : Int),.slice A2 c2.buf.length cap2,.int .i64 kv2,.int .i64 lv2,vd2,.nilIface]):=Hj (by have h:=hB2; unfold Cn.cells at h; rw [hbd] at h; exact h)
       have hnb : ¬ c2.body = true:=by rw [hbd]; decide
       by_cases hbe2 : c2.buf = []
       ·have q2 : ((c2.buf.length : Int) == 0) = true:=by rw [hbe2]; rfl
        have hfin:=Hj (fun w9 (hk9 : Kp (fun _ => False) wr w9) => hW.out.fin0 (Cn.R_nil e0 hnb hbe2) (hA2.kp hk9 (fun _ _ h => h)) hk9 (fun _ h => h.elim) (fun k h => .inl h) hev2.symm); replace hbe2:=Hj hbe2; have c9:=hC2.out.cell 9; have c5:=hC2.out.cell 5; have c2b:=hC2.out.cell 2; clear hB2 hL2 hA2 hO2 hk2 hbnd hR1 hR2; replace e0:=Hj e0; replace hev2:=Hj hev2; replace hbd:=Hj hbd; replace hnb:=Hj hnb; go_wp2; go_region
        go_wp2; go_ret2
        exact hfin.out _ ((Kp.refl _ _).drew)
       ·have q2 : ((c2.buf.length : Int) == 0) = false:=beq_false_of_ne (fun e => hbe2 (List.eq_nil_of_length_eq_zero (by omega)))
        have hSt:=Hj (start_any hA2 e0 hbd hbe2 hbm hM2); have c9:=hC2.out.cell 9; have c5:=hC2.out.cell 5; have c2b:=hC2.out.cell 2; have hF2g:=hF2; have hll : l.length < 10000000:=by split at hbnd <;> omega
        have hfw:=Hj (fun (hw : Cn.wait c2) w9 (hk9 : Kp (· = g) wr w9) (h9 : Cn.At w9 g F2 c2) => hW.out.fin0 (Cn.R_wait e0 hnb hbe2 hw) h9 hk9 (fun k e => e ▸ hF2g) (fun k h => .inl h) hev2.symm); have hfb:=Hj (fun (hw : ¬ Cn.wait c2) (hs : Cn.sE c2 ≠ 0) w9 (hk9 : Kp (· = g) wr w9) (h9 : Cn.At w9 g F2 { c2 with err:=Cn.sE c2 }) => hW.out.fin0 (Cn.R_bad e0 hnb hbe2 hw hs) h9 hk9 (fun k e => e ▸ hF2g) (fun k h => .inl h) (e:=errV (Cn.sE c2)) rfl); have hRh:=Hj (fun (hw : ¬ Cn.wait c2) (hs : Cn.sE c2 = 0) => Cn.R_head e0 hnb hbe2 hw hs); replace hbe2:=Hj hbe2; replace hbnd:=Hj hbnd; replace hA2:=Hj hA2; replace hO2:=Hj hO2; replace hoff2:=Hj hoff2; replace hlt2:=Hj hlt2; replace hk2:=Hj hk2; replace hR1:=Hj hR1; replace hR2:=Hj hR2; replace hFF2:=Hj hFF2; replace hF2:=Hj hF2; replace hF2g:=Hj hF2g; clear hB2 hL2; replace e0:=Hj e0; replace hev2:=Hj hev2; replace hbd:=Hj hbd; replace hnb:=Hj hnb; go_wp2_with fail
        refine hSt.out.mono ?_
        rintro e w3 ⟨hk3,h3⟩
        clear c9 c5 c2b hSt; rcases h3 with ⟨xs8,⟨k8,m8,t8,A8,n8,cp8,z8,A9,n9,cp9,rfl⟩,rfl,hcase⟩ | ⟨hnw,hs,xs8,F3,rfl,hF3,hE3,hA3⟩
        ·unfold Cn.evV
         rcases hcase with ⟨hw,hA3⟩ | ⟨hnw,hs,hA3⟩
         ·have hfin:=Hj (fun w9 (hk9 : Kp (fun _ => False) w3 w9) => hfw.out hw w9 (hk3.trans (hk9.mono (fun _ _ h => h.elim))) (hA3.kp hk9 (fun _ _ h => h)))
          obtain ⟨-,-,vm3,vb3,kv3,lv3,vd3,hB3,-⟩:=hA3
          rw [hev2.out] at hB3
          have c9 : (w3.alloc (.cells #[.int .i64 k8,.string m8,.string t8,.slice A8 n8 cp8,.int .i64 z8,.slice A9 n9 cp9,.slice none 0 0,.slice none 0 0] 77)).cell? ⟨g,9,none⟩ = some .nilIface:=(hB3.alloc (.cells #[.int .i64 k8,.string m8,.string t8,.slice A8 n8 cp8,.int .i64 z8,.slice A9 n9 cp9,.slice none 0 0,.slice none 0 0] 77)).cell 9
          replace hB3:=Hj hB3; go_wp2; go_region
          go_wp2; go_ret2
          exact hfin.out _ (((Kp.refl _ _).alloc _).drew)
         ·have hfin:=Hj (fun w9 (hk9 : Kp (fun _ => False) w3 w9) => hfb.out hnw hs w9 (hk3.trans (hk9.mono (fun _ _ h => h.elim))) (hA3.kp hk9 (fun _ _ h => h)))
          obtain ⟨-,-,vm3,vb3,kv3,lv3,vd3,hB3,-⟩:=hA3
          have hevs : errV (Cn.sE c2) = .iface 57 (.int .i64 (Cn.sE c2)):=if_neg hs
          rw [hevs] at hfin
          have c9 : (w3.alloc (.cells #[.int .i64 k8,.string m8,.string t8,.slice A8 n8 cp8,.int .i64 z8,.slice A9 n9 cp9,.slice none 0 0,.slice none 0 0] 77)).cell? ⟨g,9,none⟩ = some (.iface 57 (.int .i64 (Cn.sE c2))):=by
           have:=(hB3.alloc (.cells #[.int .i64 k8,.string m8,.string t8,.slice A8 n8 cp8,.int .i64 z8,.slice A9 n9 cp9,.slice none 0 0,.slice none 0 0] 77)).cell 9
           rw [← hevs]; exact this
          replace hB3:=Hj hB3; replace hevs:=Hj hevs; replace hs:=Hj hs; generalize Cn.sE c2 = sE2 at *; go_wp2; go_region
          go_wp2; go_ret2
          exact hfin.out _ (((Kp.refl _ _).alloc _).drew)
        ·unfold Cn.evV
         have hRh2:=Hj (hRh.out hnw hs); have hms3:=Hj (Cn.ms_sC hs); have hcells:=hE3.cells1; obtain ⟨vr8,vs8,vd8,vt8,hx8,⟨A8,cp8,rfl,-⟩,-,⟨A9,cp9,rfl,-⟩,-,⟨Ad,cpd,rfl,-⟩,-,⟨At8,cpt,rfl,-⟩,-⟩:=id hE3
         subst hx8; have hE3':=Hj (Cn.EvsC.one hE3); generalize hev8 : Cn.hEv c2 = ev8 at *; replace hev8:=Hj hev8; have hnw3:=Hj hnw; have hO3:=(hO2.out.kp (fun k hk e => by have:=hoff2.out k hk; rw [e] at this; exact this hF2.out) hk3).alloc (.cells #[.int .i64 (ev8.kind : Int),.string (str ev8.m),.string (str ev8.t),.slice A8 ev8.rf.length cp8,.int .i64 ev8.st,.slice A9 ev8.sf.length cp9,.slice Ad ev8.data.length cpd,.slice At8 ev8.tr.length cpt] 77)
         have hka:=(Kp.refl (fun k => (Value.slice Ao l.length co).ownBlock = some k) w3).alloc (.cells #[.int .i64 (ev8.kind : Int),.string (str ev8.m),.string (str ev8.t),.slice A8 ev8.rf.length cp8,.int .i64 ev8.st,.slice A9 ev8.sf.length cp9,.slice Ad ev8.data.length cpd,.slice At8 ev8.tr.length cpt] 77); have hE9:=Blk.new w3 77 #[.int .i64 (ev8.kind : Int),.string (str ev8.m),.string (str ev8.t),.slice A8 ev8.rf.length cp8,.int .i64 ev8.st,.slice A9 ev8.sf.length cp9,.slice Ad ev8.data.length cpd,.slice At8 ev8.tr.length cpt]; replace hE3:=Hj hE3; replace hA3:=Hj hA3; replace hF3:=Hj hF3; replace hk3:=Hj hk3; replace hs:=Hj hs; replace hcells:=Hj hcells; clear hnw; have hsz3:=Hj (show w.heap.size ≤ w3.heap.size from Nat.le_trans hk2.out.size hk3.out.size); go_upto_region 14 with (fail)
         generalize w3.alloc (.cells #[.int .i64 (ev8.kind : Int),.string (str ev8.m),.string (str ev8.t),.slice A8 ev8.rf.length cp8,.int .i64 ev8.st,.slice A9 ev8.sf.length cp9,.slice Ad ev8.data.length cpd,.slice At8 ev8.tr.length cpt] 77) = w3a at *; have x0:=hE9.cell 0; have x1:=hE9.cell 1; have x2:=hE9.cell 2; have x3:=hE9.cell 3; have x4:=hE9.cell 4; have x5:=hE9.cell 5; have x6:=hE9.cell 6; have x7:=hE9.cell 7; replace hO3:=Hj hO3; replace hka:=Hj hka; replace hE9:=Hj hE9; have hsz4:=Hj (show w.heap.size ≤ w3a.heap.size from Nat.le_trans hsz3.out hka.out.size); go_wp2_with (at_builtin; go_loud (refine push_ev (v:=.slice Ao l.length co) (n:=l.length) (xs:=xs) (B:=w.heap.size) _ _ rfl rfl rfl hO3.out rfl hcells.out hll hsz4.out ?_); intro v4 w4 ho4 hg4 hat4; obtain ⟨A4,c4,rfl,-,-,-⟩:=id (Rd.own ho4); replace ho4:=Hj ho4; replace hg4:=Hj hg4; replace hat4:=Hj hat4)
         have hp:=hW.out.push (m:=[ev8]) (hk3.out.mono (F:=F2) (fun k _ e => e ▸ hF2.out)) hF3.out hE3'.out hA3.out ((hka.out.alloc _).grown hg4.out (fun k e _ => e)) ho4.out (hat4.out.imp id (fun e k h => by rw [e] at h; cases h; have:=hka.out.size; omega))
         obtain ⟨p1,p2,p3,p4,p5,p6⟩:=hp
         have hms4:=Cn.msW_le p1; have hnew : Hid (Cn.WI w g F (Cn.app c b) (.slice A4 (l.length + 1) c4) w4 (Cn.sC c2) F3 (l ++ [ev8]) (xs ++ [.int .i64 (ev8.kind : Int),.string (str ev8.m),.string (str ev8.t),.slice A8 ev8.rf.length cp8,.int .i64 ev8.st,.slice A9 ev8.sf.length cp9,.slice Ad ev8.data.length cpd,.slice At8 ev8.tr.length cpt])):=by
          refine ⟨?_,?_,p1,p2,p3,p4,p5,p6,?_,?_⟩
          ·rw [hR1.out,hRh2.out]
          ·rw [hR2.out,hRh2.out,List.append_assoc]; rfl
          ·rw [List.length_append,List.length_singleton]
           have h1:=hms3.out.2; have h2:=hbnd.out; split
           ·split at h2 <;> omega
           ·split at h2 <;> omega
          ·have h1:=hms3.out.2
           omega
         have hmd:=Hj (show Cn.msW w4 g < Cn.msW wr g by rw [hms.out]; have:=hms3.out.1; omega)
         clear p1 p2 p3 p4 p5 p6 hms4; go_roundw
         case rel => exact ⟨_,F3,_,_,hnew⟩
         case measure => exact hmd.out
      | true =>
       have hC2 : Hid (Blk wr g 73 #[.bool c2.resp,.bool c2.closed,.bool true,vm2,.int .i64 (c2.many : Int),.slice A2 c2.buf.length cap2,.int .i64 kv2,.int .i64 lv2,vd2,.nilIface]):=Hj (by have h:=hB2; unfold Cn.cells at h; rw [hbd] at h; exact h)
       have hPt:=Hj (part_any hA2 e0 hbd hbm); have c9:=hC2.out.cell 9; have c2b:=hC2.out.cell 2; have hll : l.length + 2 < 10000000:=by split at hbnd <;> omega
       have hRb:=Hj (fun h => Cn.R_body e0 hbd h); have hRd:=Hj (fun h => Cn.R_done e0 hbd h); have hmp:=Hj (fun h => Cn.ms_pC hbd h); rw [hbd,if_pos rfl] at hbnd
       replace hbnd:=Hj hbnd; replace hA2:=Hj hA2; replace hO2:=Hj hO2; replace hoff2:=Hj hoff2; replace hlt2:=Hj hlt2; replace hk2:=Hj hk2; replace hR1:=Hj hR1; replace hR2:=Hj hR2; replace hFF2:=Hj hFF2; replace hF2:=Hj hF2; clear hB2 hL2; replace e0:=Hj e0; replace hev2:=Hj hev2; replace hbd:=Hj hbd; go_wp2_with fail
       refine hPt.out.mono ?_
       rintro e w3 ⟨o3,F3,xs3,rfl,hE3,hO3,hoff3,hF3,hk3,hA3⟩
       clear c9 c2b hPt; have hr3:=Rd.own hO3; obtain ⟨A3,c3,rfl,-,-,-⟩:=id hr3; have hlev : (Cn.pEv c2).length ≤ 2:=by unfold Cn.pEv Cn.evs; rw [List.length_append]; split <;> split <;> simp
       have hcells:=Hj hE3.cells1; have hO4:=Hj (hO2.out.kp hoff2.out hk3); have hsz3:=Hj (show w.heap.size ≤ w3.heap.size from Nat.le_trans hk2.out.size hk3.size); replace hE3:=Hj hE3; replace hO3:=Hj hO3; replace hA3:=Hj hA3; replace hF3:=Hj hF3; replace hk3:=Hj hk3; replace hr3:=Hj hr3; replace hoff3:=Hj hoff3; obtain ⟨evp,hevp⟩ : ∃ m,Cn.pEv c2 = m:=⟨_,rfl⟩
       rw [hevp] at hlev hE3 hr3 hRb hRd ⊢
       replace hevp:=Hj hevp; go_upto_region 16 with (at_builtin; go_loud (refine push_evs (v:=.slice Ao l.length co) (n:=l.length) (m:=evp.length) (c:=c3) (A:=A3) (xs:=xs) (news:=xs3) (B:=w.heap.size) _ _ rfl rfl rfl hO4.out rfl hr3.out hcells.out (by omega) hsz3.out ?_); intro v4 w4 ho4 hg4 hat4; obtain ⟨A4,c4,rfl,-,-,-⟩:=id (Rd.own ho4); replace ho4:=Hj ho4; replace hg4:=Hj hg4; replace hat4:=Hj hat4)
       have hp:=hW.out.push (m:=evp) hk3.out hF3.out hE3.out hA3.out ((Kp.refl (fun k => (Value.slice Ao l.length co).ownBlock = some k) w3).grown hg4.out (fun k e _ => e)) ho4.out (hat4.out.imp id (fun e k h => by rw [e] at h; cases h; exact Nat.le_refl _))
       obtain ⟨p1,p2,p3,p4,p5,p6⟩:=hp
       have hms4:=Cn.msW_le p1; obtain ⟨-,-,vm4,vb4,kv4,lv4,vd4,hB4,-⟩:=id p1; by_cases hb4 : (Cn.pC c2).body = true
       ·have hfin:=Hj (fun w9 (hk9 : Kp (fun _ => False) w4 w9) => hW.out.fin (hRb.out hb4) (p1.kp hk9 (fun _ _ h => h)) ((p2.kp hk9 (fun _ _ h => h)).mono (fun k h => ⟨h.1,Nat.lt_of_lt_of_le h.2.1 hk9.size,h.2.2.1⟩)) (p3.kp (fun _ _ h => h) hk9) p4 p5 (p6.trans (hk9.mono (fun _ _ h => h.elim))) (e:=errV (Cn.pC c2).err) rfl)
        have hC4 : Blk w4 g 73 #[.bool (Cn.pC c2).resp,.bool (Cn.pC c2).closed,.bool true,vm4,.int .i64 ((Cn.pC c2).many : Int),vb4,.int .i64 kv4,.int .i64 lv4,vd4,errV (Cn.pC c2).err]:=by have h:=hB4; unfold Cn.cells at h; rw [hb4] at h; exact h
        clear p1 p2 p3 p4 p5 p6 hms4 hB4; replace hb4:=Hj hb4; generalize (Cn.pC c2).err = er4 at *; by_cases he4 : er4 = 0
        ·have hen : errV er4 = .nilIface:=by rw [he4]; rfl
         rw [hen] at hC4 hfin
         replace he4:=Hj he4; replace hen:=Hj hen; have d2:=hC4.cell 2; have d9:=hC4.cell 9; replace hC4:=Hj hC4; go_wp2; go_region
         go_wp2; go_ret2
         exact hfin.out _ ((Kp.refl _ _).drew)
        ·have hen : errV er4 = .iface 57 (.int .i64 er4):=if_neg he4
         rw [hen] at hC4 hfin
         replace he4:=Hj he4; replace hen:=Hj hen; have d2:=hC4.cell 2; have d9:=hC4.cell 9; replace hC4:=Hj hC4; go_wp2; go_region
         go_wp2; go_ret2
         exact hfin.out _ ((Kp.refl _ _).drew)
       ·have hbf : (Cn.pC c2).body = false:=by simpa using hb4
        have hRd2:=hRd.out hb4; have hmp2:=hmp.out hb4; have d2 : w4.cell? ⟨g,2,none⟩ = some (.bool false):=by have h:=hB4.cell 2; rw [← hbf]; exact h
        have hnew : Hid (Cn.WI w g F (Cn.app c b) (.slice A4 (l.length + evp.length) c4) w4 (Cn.pC c2) F3 (l ++ evp) (xs ++ xs3)):=by
         refine ⟨?_,?_,p1,p2,p3,p4,p5,p6,?_,?_⟩
         ·rw [hR1.out,hRd2]
         ·rw [hR2.out,hRd2,List.append_assoc]
         ·rw [List.length_append,hbf,if_neg (by decide)]
          have h1:=Cn.pBuf_le c2; have h2:=hbnd.out; have h3 : (Cn.pC c2).buf.length = (Cn.pBuf c2).length:=rfl
          omega
         ·have h1:=Cn.pBuf_le c2
          have h3 : (Cn.pC c2).buf.length = (Cn.pBuf c2).length:=rfl
          omega
        have hmd:=Hj (show Cn.msW w4 g < Cn.msW wr g by rw [hms.out]; omega)
        clear p1 p2 p3 p4 p5 p6 hms4 hB4 hRd2 hmp2; replace hb4:=Hj hb4; replace hbf:=Hj hbf; go_wp2; go_roundw
        case rel => exact ⟨_,F3,_,_,hnew⟩
        case measure => exact hmd.out
     ·have hen : errV c2.err = .iface 57 (.int .i64 c2.err):=if_neg e0
      have hfin:=Hj (fun w9 (hk9 : Kp (fun _ => False) wr w9) => hW.out.fin0 (Cn.R_err e0) (hA2.kp hk9 (fun _ _ h => h)) hk9 (fun _ h => h.elim) (fun k h => .inl h) hen.symm); rw [hen] at hB2
      have c9 : wr.cell? ⟨g,9,none⟩ = some (.iface 57 (.int .i64 c2.err)):=hB2.cell 9
      clear hB2 hL2 hA2 hO2 hk2 hbnd hR1 hR2; replace hen:=Hj hen; replace e0:=Hj e0; go_wp2; go_region
      go_wp2; go_ret2
      exact hfin.out _ ((Kp.refl _ _).drew)
 ·have hev : errV c.err = .iface 57 (.int .i64 c.err):=if_neg h0
  rw [hev] at hB
  have hwr : Cn.write c b = (c,[]):=by
   have he : Cn.wrE c b = c.err:=if_neg (fun h => h0 h.1)
   unfold Cn.write
   rw [he,if_pos (.inl h0)]
  rw [hwr]
  replace hB : Blk w g 73 #[.bool c.resp,.bool c.closed,.bool c.body,vm,.int .i64 (c.many : Int),vb,.int .i64 kv,.int .i64 lv,vd,.iface 57 (.int .i64 c.err)]:=hB
  replace hB:=Hj hB; replace hwr:=Hj hwr; replace hA:=Hj hA; replace hev:=Hj hev; replace h0:=Hj h0; clear hL hM hRb hlt hF; have c9:=hB.out.cell 9; go_enter Tryz.func10,Tryz.ntmps10
  go_wp2; go_region
  go_wp2; go_ret2
  exact Cn.WriteR.none (hA.out.kp ((Kp.refl (fun _ => False) w).drew) (fun _ _ h => h)) ((Kp.refl F w).drew) hev.out.symm
end Go.Proofs.YtjffffpfejmoiaaGreatDoor
