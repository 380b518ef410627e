import Derived.Test.YtjffffpfejmoiaaGreatDoorNPartP
import Derived.Deep.RegionHeld3
import Derived.IntWalk
namespace Go.Proofs.YtjffffpfejmoiaaGreatDoor
open Go.RowKit Syn Hd Fr Ck
set_option maxRecDepth 100000 in
set_option maxHeartbeats 32000000 in
theorem part_any {c : Cn.C} {w : World} {g : Nat} {F : Nat → Prop} (hA : Cn.At w g F c) (h0 : c.err = 0) (hbd : c.body = true) (hm : c.buf.length ≤ 1000000) :
  Calls Tryz.prog 31 #[.pointer (some ⟨g,0,none⟩)] w (Cn.PartR w g F c):=by
 obtain ⟨hF,hlt,vm,vb,kv,lv,vd,hB,hL⟩:=hA
 replace hL:=hL h0; rcases c with ⟨resp,closed,body,meth,many,buf,kind,len,dec,err⟩
 obtain rfl : err = 0:=h0
 obtain rfl : body = true:=hbd
 replace hm : buf.length ≤ 1000000:=hm
 obtain ⟨hkv,hlv,hlen,hdec⟩ : kv = (kind : Int) ∧ lv = (len : Int) ∧ len ≤ 1000000 ∧ (kind = 3 → dec.bad = 0 ∧ Cn.DecAt w F g _ vm vb vd):=hL.frame rfl
 subst hkv hlv
 replace hB : Blk w g 73 #[.bool resp,.bool closed,.bool true,vm,.int .i64 (many : Int),vb,.int .i64 (kind : Int),.int .i64 (len : Int),vd,.nilIface]:=hB
 obtain ⟨A,cap,rfl,hc0,hA4⟩ : ∃ A cap,vb = .slice A buf.length cap ∧ (A = none → cap = 0) ∧ (kind ≠ 4 → ∃ b o,A = some ⟨b,o,none⟩):=by
  obtain ⟨A,cap,h1,h2,h3⟩:=hL.nil
  exact ⟨A,cap,h1,h2,h3 rfl⟩
 have hbuf : Rd w 1 (.slice A buf.length cap) buf.length (u8s buf):=hL.buf
 obtain ⟨A',c',e',hcap,-,-⟩:=id hbuf; cases e'; have hmeth : Rd w 1 vm meth.length (strs meth):=hL.meth
 obtain ⟨Am,cm,rfl,hcm,-,rm⟩:=id hmeth; have hmany : many ≤ 64:=hL.many
 have hfew : meth.length ≤ 1000:=hL.few
 have hone : resp = true → meth ≠ []:=hL.one rfl
 have hCw:=Hj hB; have hkw:=Hj (Kp.refl (· = g) w); have hzw : Hid (w.heap.size ≤ w.heap.size):=Hj (Nat.le_refl _)
 have hgB : Hid (g < w.heap.size):=Hj hB.lt
 have hBw : Hid (w.heap.size ≤ w.heap.size):=Hj (Nat.le_refl _)
 have kpF : Hid (∀ w',Kp (· = g) w w' → Kp F w w'):=Hj (fun w' h => h.mono (fun k _ e => by rw [e]; exact hF))
 replace hL:=Hj hL; replace hbuf:=Hj hbuf; replace hmeth:=Hj hmeth; replace hc0:=Hj hc0; replace hlt:=Hj hlt; replace hF:=Hj hF; replace hone:=Hj hone; replace hdec:=Hj hdec; replace hA4:=Hj hA4; clear hB rm; by_cases h4 : kind = 4
 ·skip
  have q4 : ((kind : Int) == 4) = true:=by rw [h4]; rfl
  have hpD : Cn.pData (Cn.C.mk resp closed true meth many buf kind len dec 0) = buf:=by unfold Cn.pData; exact if_pos h4
  have hpN : Cn.pDone (Cn.C.mk resp closed true meth many buf kind len dec 0) = false:=by unfold Cn.pDone; exact if_pos h4
  have hpE : Cn.pErr (Cn.C.mk resp closed true meth many buf kind len dec 0) = 0:=by unfold Cn.pErr; exact if_neg (by show ¬ kind = 3; omega)
  have hpB : Cn.pBuf (Cn.C.mk resp closed true meth many buf kind len dec 0) = []:=by unfold Cn.pBuf; exact if_pos h4
  have hpL : Cn.pLen (Cn.C.mk resp closed true meth many buf kind len dec 0) = len:=by unfold Cn.pLen; exact if_pos (.inr h4)
  replace h4:=Hj h4; replace hpD:=Hj hpD; replace hpN:=Hj hpN; replace hpE:=Hj hpE; replace hpB:=Hj hpB; replace hpL:=Hj hpL; have c5:=hCw.out.cell 5; have c6:=hCw.out.cell 6; go_enter Tryz.func31,Tryz.ntmps31
  have h1c : ∀ u ∈ u8s buf,u.oneCell' = true:=fun u hu => by obtain ⟨x,-,rfl⟩:=List.mem_map.1 hu; rfl
  replace h1c:=Hj h1c; go_upto_region 12 with (at_builtin; go_loud (refine step_pushR (v:=Value.slice none 0 0) (n:=0) (m:=buf.length) (xs:=[]) (news:=u8s buf) (c:=cap) (A:=A) (B:=w.heap.size) 23 5 (.int .u8 0) 1 1 _ _ rfl rfl Tryz.underlying23 infoU8 rfl (by decide) (by decide) rfl (own_nil _ _ _ _) rfl hbuf.out h1c.out (by omega) hzw.out ?_); intro vD w1 hDw1 hgx hat; rw [Nat.zero_add,List.nil_append] at hDw1; have hCw1:=Hj (Blk.grown8 hCw.out hgx (fun e => by cases e)); have hkw1:=Hj (hkw.out.grown hgx (fun k e => by cases e)); have hzw1:=Hj (Nat.le_trans hzw.out hgx.size); clear hgx hat)
  obtain ⟨AD,cD,rfl,-,-,-⟩:=id (Rd.own hDw1)
  replace hDw1:=Hj hDw1; clear h1c; clear c5 c6; have c5:=hCw1.out.cell 5; have cf5:=hCw1.out.frozen 5; go_upto_region 20 with (fail)
  clear c5 cf5; have hs : Kp (· = g) w1 (w1.setCell ⟨g,5,none⟩ (.slice none 0 0)):=(Kp.refl (· = g) w1).set_ (g:=g) (fun _ => rfl) 5 (.slice none 0 0)
  have hCw2 : Blk (w1.setCell ⟨g,5,none⟩ (.slice none 0 0)) g 73 #[.bool resp,.bool closed,.bool true,.slice Am meth.length cm,.int .i64 (many : Int),.slice none 0 0,.int .i64 (kind : Int),.int .i64 (len : Int),vd,.nilIface]:=(hCw1.out.set_ 5 (.slice none 0 0))
  have hkw2:=hkw1.out.next (fun k _ e => e) hs; have hzw2:=Nat.le_trans hzw1.out hs.size; have hDw2:=hDw1.out.kp (fun k hk e => by have:=(World.ownsRow.lt hDw1.out k hk).1; have:=hgB.out; omega) hs
  generalize (w1.setCell ⟨g,5,none⟩ (.slice none 0 0)) = w2 at *; clear hs; replace hCw2:=Hj hCw2; replace hkw2:=Hj hkw2; replace hzw2:=Hj hzw2; replace hDw2:=Hj hDw2; by_cases hD0 : buf = []
  ·have gD : ¬ (0 : Int) < (buf.length : Int):=by rw [show buf.length = 0 from by rw [hD0]; rfl]; decide
   have gD2 : buf.length = 0:=by omega
   replace gD2:=Hj gD2; replace hD0:=Hj hD0; skip
   go_wp2; go_ret; have hes : Cn.evs buf false [] = []:=by unfold Cn.evs; rw [if_pos hD0.out]; rfl
   refine Cn.PartR.mk (c:=(Cn.C.mk resp closed true meth many buf kind len dec 0)) (B:=w.heap.size) (F':=F) (D:=buf) (dn:=false) (T:=[]) (er:=0) (meth':=meth) (buf':=[]) hL.out rfl hpD.out hpN.out (fun h => by cases h) hpE.out hpB.out rfl (by rw [hes]; exact Cn.EvsC.nil) (by rw [hes]; exact (own_nil w2 (w.heap.size) 77 8)) hBw.out hlt.out hzw2.out hF.out (fun k h => .inl h) (kpF.out _ hkw2.out) hCw2.out ?_
   intro _; refine ⟨hmeth.out.kp (hL.out.methF.off fun k h e => h.2 e) hkw2.out,hL.out.methF,⟨none,0,rfl,fun _ => rfl,fun h => absurd h4.out h⟩,⟨_,_,rfl,Nat.le_refl _,rfl,fun h => absurd h (by decide)⟩,On.nil _,fun _ => ⟨by rw [hpL.out],fun h => ?_⟩⟩
   exact absurd (h4.out.symm.trans h) (by decide)
  ·have gD : (0 : Int) < (buf.length : Int):=by have:=List.length_pos_iff.2 hD0; skip; omega
   replace hD0:=Hj hD0; go_upto_region 21 with (fail)
   go_upto_region 22 with (at_builtin; go_loud (refine push_ev (v:=Value.slice none 0 0) (n:=0) (xs:=[]) (B:=w.heap.size) _ _ rfl rfl rfl (own_nil w2 (w.heap.size) 77 8) rfl (by intro u hu; simp only [List.mem_cons,List.mem_nil_iff,or_false] at hu; rcases hu with rfl | rfl | rfl | rfl | rfl | rfl | rfl | rfl <;> rfl) (by omega) hzw2.out ?_); intro vo0 w3 how3 hgx hat; have hCw3:=Hj (Blk.grown8 (hCw2.out.alloc (.cells #[.int .i64 2,.string ⟨#[]⟩,.string ⟨#[]⟩,.slice none 0 0,.int .i64 0,.slice none 0 0,.slice AD buf.length cD,.slice none 0 0] 77)) hgx (fun e => by cases e)); have hkw3:=Hj ((hkw2.out.alloc (.cells #[.int .i64 2,.string ⟨#[]⟩,.string ⟨#[]⟩,.slice none 0 0,.int .i64 0,.slice none 0 0,.slice AD buf.length cD,.slice none 0 0] 77)).grown hgx (fun k e => by cases e)); have hzw3:=Hj (Nat.le_trans (Nat.le_trans hzw2.out (by rw [alloc_size']; omega)) hgx.size); have hDw3:=Hj (own_kpg ((hDw2.out).alloc (.cells #[.int .i64 2,.string ⟨#[]⟩,.string ⟨#[]⟩,.slice none 0 0,.int .i64 0,.slice none 0 0,.slice AD buf.length cD,.slice none 0 0] 77)) hgx (fun k _ e => by cases e)); clear hgx hat)
   obtain ⟨Ao0,co0,rfl,-,-,-⟩:=id (Rd.own how3)
   replace how3:=Hj how3; go_wp2; go_ret; have hes : Cn.evs buf false [] = [Cn.evData buf]:=by unfold Cn.evs; rw [if_neg hD0.out]; rfl
   refine Cn.PartR.mk (c:=(Cn.C.mk resp closed true meth many buf kind len dec 0)) (B:=w.heap.size) (F':=F) (D:=buf) (dn:=false) (T:=[]) (er:=0) (meth':=meth) (buf':=[]) hL.out rfl hpD.out hpN.out (fun h => by cases h) hpE.out hpB.out rfl (by rw [hes]; exact (Cn.EvsC.one (Cn.evC_data (Rd.own hDw3.out) (On.own hDw3.out)))) (by rw [hes]; exact how3.out) hBw.out hlt.out hzw3.out hF.out (fun k h => .inl h) (kpF.out _ hkw3.out) hCw3.out ?_
   intro _; refine ⟨hmeth.out.kp (hL.out.methF.off fun k h e => h.2 e) hkw3.out,hL.out.methF,⟨none,0,rfl,fun _ => rfl,fun h => absurd h4.out h⟩,⟨_,_,rfl,Nat.le_refl _,rfl,fun h => absurd h (by decide)⟩,On.nil _,fun _ => ⟨by rw [hpL.out],fun h => ?_⟩⟩
   exact absurd (h4.out.symm.trans h) (by decide)
 ·by_cases h3 : kind = 3
  ·skip
   obtain ⟨hbd0,gd,Fd,hvd,hDv,hsub,hng,hom,hob⟩:=hdec.out h3
   subst hvd; obtain ⟨b0,ob,rfl⟩:=hA4.out h4
   have q4 : ((kind : Int) == 4) = false:=beq_false_of_ne (by omega)
   have q3 : ((kind : Int) == 3) = true:=by rw [h3]; rfl
   obtain ⟨s2,D,nT,hwr⟩ : ∃ s2 D nT,wr dec buf = (s2,D,nT):=⟨_,_,_,rfl⟩
   have hNl : nT ≤ buf.length:=by have:=wr_count buf dec; rw [hwr] at this; exact this
   have hDm : D.length ≤ buf.length:=by have:=wr_data_count buf dec; rw [hwr] at this; exact Nat.le_trans this hNl
   have hWr:=fun w' (hk : Kp (fun _ => False) w w') => write_any dec (hDv.kp hk (fun _ _ h => h)) buf (some ⟨b0,ob,none⟩) cap (hbuf.out.kp (fun _ _ h => h) hk) (fun _ => hob) (by omega)
   unfold WriteR at hWr
   simp only [hwr] at hWr
   have hpD : Cn.pData (Cn.C.mk resp closed true meth many buf kind len dec 0) = D:=by unfold Cn.pData; rw [if_neg (show ¬ kind = 4 from h4),if_pos (show kind = 3 from h3)]; show _ = _; simp only [hwr]
   have hpB : Cn.pBuf (Cn.C.mk resp closed true meth many buf kind len dec 0) = buf.drop nT:=by unfold Cn.pBuf; rw [if_neg (show ¬ kind = 4 from h4),if_pos (show kind = 3 from h3)]; show _ = _; simp only [hwr]
   have hpN0 : Cn.pDone (Cn.C.mk resp closed true meth many buf kind len dec 0) = decide (s2.bad = 0 ∧ s2.place = 8):=by unfold Cn.pDone; rw [if_neg (show ¬ kind = 4 from h4),if_pos (show kind = 3 from h3)]; simp only [hwr]
   have hpE : Cn.pErr (Cn.C.mk resp closed true meth many buf kind len dec 0) = (s2.bad : Int):=by unfold Cn.pErr; rw [if_pos (show kind = 3 from h3)]; simp only [hwr]
   have hpT : Cn.pTr (Cn.C.mk resp closed true meth many buf kind len dec 0) = s2.fields:=by unfold Cn.pTr; rw [if_pos (show kind = 3 from h3)]; simp only [hwr]
   have hpd : Cn.pDec (Cn.C.mk resp closed true meth many buf kind len dec 0) = s2:=by unfold Cn.pDec; rw [if_pos (show kind = 3 from h3)]; simp only [hwr]
   have hpL : Cn.pLen (Cn.C.mk resp closed true meth many buf kind len dec 0) = len:=by unfold Cn.pLen; exact if_pos (.inl h3)
   have hmoff : Off (fun k => k = g ∨ Fd k) (.slice Am meth.length cm):=fun k hk h => h.elim (hL.out.methF k hk).2 (hom k hk)
   have hboff : Off (fun k => k = g ∨ Fd k) (.slice (some ⟨b0,ob,none⟩) buf.length cap):=fun k hk h => h.elim (hL.out.bufF k hk).2 (hob k hk)
   have kpF2 : Hid (∀ w',Kp (fun k => k = g ∨ Fd k) w w' → Kp F w w'):=Hj (fun w' h => h.mono (fun k _ e => e.elim (fun e => e ▸ hF.out) (hsub k)))
   have hS:=Hj (fun w' (hk : Kp Fd w w') => show w'.cell? ⟨g,8,none⟩ = some (.pointer (some ⟨gd,0,none⟩)) ∧ w'.cell? ⟨g,5,none⟩ = some (.slice (some ⟨b0,ob,none⟩) buf.length cap) from ⟨(hCw.out.kp hng hk).cell 8,(hCw.out.kp hng hk).cell 5⟩); have hCF:=Hj (fun w' (hk : Kp Fd w w') => hCw.out.kp hng hk); replace h4:=Hj h4; replace h3:=Hj h3; replace hpD:=Hj hpD; replace hpB:=Hj hpB; replace hpE:=Hj hpE; replace hpT:=Hj hpT; replace hpd:=Hj hpd; replace hpL:=Hj hpL; replace hmoff:=Hj hmoff; replace hboff:=Hj hboff; replace hwr:=Hj hwr; replace hDv:=Hj hDv; replace hsub:=Hj hsub; replace hng:=Hj hng; replace hom:=Hj hom; replace hob:=Hj hob; replace hbd0:=Hj hbd0; by_cases hb0 : s2.bad = 0
   ·have hpE0:=hpE.out
    rw [hb0] at hWr hpE0
    by_cases h8 : s2.place = 8
    ·have hpN : Cn.pDone (Cn.C.mk resp closed true meth many buf kind len dec 0) = true:=by rw [hpN0]; exact decide_eq_true ⟨hb0,h8⟩
     simp only [show errV ((0 : Nat) : Int) = .nilIface from rfl] at hWr
     replace hWr:=Hj hWr; clear hpN0; replace hpN:=Hj hpN; replace hb0:=Hj hb0; replace hpE0:=Hj hpE0; replace h8:=Hj h8; have c6:=hCw.out.cell 6; go_enter Tryz.func31,Tryz.ntmps31
     go_upto_region 14 with (fail)
     clear c6; go_region_held3 (fun w' => w'.cell? ⟨g,8,none⟩ = some (.pointer (some ⟨gd,0,none⟩)) ∧ w'.cell? ⟨g,5,none⟩ = some (.slice (some ⟨b0,ob,none⟩) buf.length cap))
      (first | exact hS.out _ (by first | with_reducible exact Kp.refl _ _ | with_reducible exact (Kp.refl _ _).drew | with_reducible assumption | with_reducible exact Kp.drew (by with_reducible assumption)))
      (first | (go_at_call 57; refine (hWr.out _ (by first | with_reducible exact Kp.refl _ _ | with_reducible exact (Kp.refl _ _).drew)).mono ?_; rintro e w5 ⟨vb5,Fd5,rfl,hv5,hoff5,hD5,hFd5,hkx⟩; (first | have hk5 : Kp Fd w w5:=hkx | have hk5 : Kp Fd w w5:=((Kp.refl Fd w).drew).trans hkx)))
     have hgBw:=hgB.out; have hBw5 : w.heap.size ≤ w5.heap.size:=hk5.size
     have hCw5:=Hj (hCF.out w5 hk5); have hkw5:=Hj (hk5.mono (F:=fun k => k = g ∨ Fd k) (fun k _ h => Or.inr h)); have hzw5 : Hid (w5.heap.size ≤ w5.heap.size):=Hj (Nat.le_refl _)
     have hlw5:=Hj (Kp.refl (· = g) w5); have hgB : Hid (g < w5.heap.size):=Hj (by omega)
     have hBw : Hid (w.heap.size ≤ w5.heap.size):=Hj hBw5
     have hFB : ∀ k,(F k ∨ Fd5 k) → k < w5.heap.size:=fun k h => h.elim (fun h => by have:=hlt.out k h; omega) (hD5.2.1 k)
     have hFF : ∀ k,(F k ∨ Fd5 k) → F k ∨ w.heap.size ≤ k:=fun k h => h.elim Or.inl (fun h => (hFd5 k h).imp (hsub.out k) id)
     have hng5 : ¬ Fd5 g:=fun h => (hFd5 g h).elim hng.out (fun h => by have : w.heap.size ≤ g:=h; omega)
     have hom5 : Off Fd5 (.slice Am meth.length cm):=fun k hk h => (hFd5 k h).elim (hom.out k hk) (fun h => by have:=hlt.out k (hL.out.methF k hk).1; have : w.heap.size ≤ k:=h; omega)
     have hob5 : Off Fd5 (.slice (some ⟨b0,ob,none⟩) buf.length cap):=fun k hk h => (hFd5 k h).elim (hob.out k hk) (fun h => by have:=hlt.out k (hL.out.bufF k hk).1; have : w.heap.size ≤ k:=h; omega)
     have hr5:=Hj (Rd.own hv5); obtain ⟨A5,c5v,rfl,-,-,-⟩:=id hr5.out; clear hkx hk5 hWr hS hCF hv5 hoff5; replace hFB:=Hj hFB; replace hFF:=Hj hFF; replace hng5:=Hj hng5; replace hom5:=Hj hom5; replace hob5:=Hj hob5; replace hD5:=Hj hD5; replace hFd5:=Hj hFd5; clear hgBw hBw5; have h1c : ∀ u ∈ u8s D,u.oneCell' = true:=fun u hu => by obtain ⟨x,-,rfl⟩:=List.mem_map.1 hu; rfl
     replace h1c:=Hj h1c; go_upto_region 16 with (at_builtin; go_loud (refine step_pushR (v:=Value.slice none 0 0) (n:=0) (m:=D.length) (xs:=[]) (news:=u8s D) (c:=c5v) (A:=A5) (B:=w5.heap.size) 23 5 (.int .u8 0) 1 1 _ _ rfl rfl Tryz.underlying23 infoU8 rfl (by decide) (by decide) rfl (own_nil _ _ _ _) rfl hr5.out h1c.out (by omega) hzw5.out ?_); intro vD w11 hDw11 hgx hat; rw [Nat.zero_add,List.nil_append] at hDw11; have hCw11:=Hj (Blk.grown8 hCw5.out hgx (fun e => by cases e)); have hkw11:=Hj (hkw5.out.grown hgx (fun k e => by cases e)); have hzw11:=Hj (Nat.le_trans hzw5.out hgx.size); have hlw11:=Hj (hlw5.out.grown hgx (fun k e => by cases e)); clear hgx hat)
     obtain ⟨AD,cD,rfl,-,-,-⟩:=id (Rd.own hDw11)
     replace hDw11:=Hj hDw11; clear h1c; have g7 : (nT : Int) ≤ (cap : Int):=by omega
     have g8 : nT ≤ cap:=by omega
     by_cases hcp : nT = cap
     ·subst hcp
      have hcut : Hid (Cn.CutB (some ⟨b0,ob,none⟩) buf.length nT nT (.slice (some ⟨b0,ob,none⟩) 0 0)):=⟨b0,ob,rfl,hNl,hcap,.inr ⟨rfl,rfl⟩⟩
      have c5:=hCw11.out.cell 5; have c9:=hCw11.out.cell 9; have cf5:=hCw11.out.frozen 5; have cf9:=hCw11.out.frozen 9; go_upto_region 17 with (fail)
      clear c5 c9 cf5 cf9; have hs : Kp (· = g) w11 ((w11.setCell ⟨g,5,none⟩ (.slice (some ⟨b0,ob,none⟩) 0 0)).setCell ⟨g,9,none⟩ (.nilIface)):=((Kp.refl (· = g) w11).set_ (g:=g) (fun _ => rfl) 5 (.slice (some ⟨b0,ob,none⟩) 0 0)).set_ (g:=g) (fun _ => rfl) 9 (.nilIface)
      have hCw12 : Blk ((w11.setCell ⟨g,5,none⟩ (.slice (some ⟨b0,ob,none⟩) 0 0)).setCell ⟨g,9,none⟩ (.nilIface)) g 73 #[.bool resp,.bool closed,.bool true,.slice Am meth.length cm,.int .i64 (many : Int),.slice (some ⟨b0,ob,none⟩) 0 0,.int .i64 (kind : Int),.int .i64 (len : Int),.pointer (some ⟨gd,0,none⟩),.nilIface]:=((hCw11.out.set_ 5 (.slice (some ⟨b0,ob,none⟩) 0 0)).set_ 9 (.nilIface))
      have hkw12:=hkw11.out.next (fun k _ e => Or.inl e) hs; have hzw12:=Nat.le_trans hzw11.out hs.size; have hlw12:=hlw11.out.trans hs; have hDw12:=hDw11.out.kp (fun k hk e => by have:=(World.ownsRow.lt hDw11.out k hk).1; have:=hgB.out; omega) hs
      generalize ((w11.setCell ⟨g,5,none⟩ (.slice (some ⟨b0,ob,none⟩) 0 0)).setCell ⟨g,9,none⟩ (.nilIface)) = w12 at *; clear hs; replace hCw12:=Hj hCw12; replace hkw12:=Hj hkw12; replace hzw12:=Hj hzw12; replace hDw12:=Hj hDw12; replace hlw12:=Hj hlw12; have hD6:=Hj (hD5.out.kp hlw12.out (fun k h e => hng5.out (e ▸ h))); have c8:=hCw12.out.cell 8; go_wp2_with fail
      refine (cdone_any hD6.out).mono ?_
      rintro e wx ⟨rfl,hwx⟩
      subst wx; rw [show decide (s2.place = 8) = true from decide_eq_true h8.out]
      go_wp2_with fail
      refine (ctrail_any hD6.out (fun _ => hb0.out)).mono ?_
      rintro e w13 ⟨vT,rfl,hTw13,hbT⟩
      rw [if_pos h8.out] at hTw13
      have hCw13:=Hj (hCw12.out.below hbT); have hkw13:=Hj (hkw12.out.below hbT); have hlw13:=Hj (hlw12.out.below hbT); have hzw13:=Hj (Nat.le_trans hzw12.out hbT.size); have hDw13:=Hj (own_below hDw12.out hbT); replace hTw13:=Hj (hTw13.base hzw12.out); obtain ⟨AT,cT,rfl,-,-,-⟩:=id (Rd.own hTw13.out)
      clear hbT; clear c8; go_upto_region 20 with (fail)
      by_cases hD0 : D = []
      ·have gD : ¬ (0 : Int) < (D.length : Int):=by rw [show D.length = 0 from by rw [hD0]; rfl]; decide
       have gD2 : D.length = 0:=by omega
       replace gD2:=Hj gD2; replace hD0:=Hj hD0; skip
       go_upto_region 24 with (at_builtin; go_loud (refine push_ev (v:=Value.slice none 0 0) (n:=0) (xs:=[]) (B:=w5.heap.size) _ _ rfl rfl rfl (own_nil w13 (w5.heap.size) 77 8) rfl (by intro u hu; simp only [List.mem_cons,List.mem_nil_iff,or_false] at hu; rcases hu with rfl | rfl | rfl | rfl | rfl | rfl | rfl | rfl <;> rfl) (by omega) hzw13.out ?_); intro vo0 w14 how14 hgx hat; have hCw14:=Hj (Blk.grown8 (hCw13.out.alloc (.cells #[.int .i64 3,.string ⟨#[]⟩,.string ⟨#[]⟩,.slice none 0 0,.int .i64 0,.slice none 0 0,.slice none 0 0,.slice AT s2.fields.length cT] 77)) hgx (fun e => by cases e)); have hkw14:=Hj ((hkw13.out.alloc (.cells #[.int .i64 3,.string ⟨#[]⟩,.string ⟨#[]⟩,.slice none 0 0,.int .i64 0,.slice none 0 0,.slice none 0 0,.slice AT s2.fields.length cT] 77)).grown hgx (fun k e => by cases e)); have hzw14:=Hj (Nat.le_trans (Nat.le_trans hzw13.out (by rw [alloc_size']; omega)) hgx.size); have hlw14:=Hj ((hlw13.out.alloc (.cells #[.int .i64 3,.string ⟨#[]⟩,.string ⟨#[]⟩,.slice none 0 0,.int .i64 0,.slice none 0 0,.slice none 0 0,.slice AT s2.fields.length cT] 77)).grown hgx (fun k e => by cases e)); have hDw14:=Hj (own_kpg ((hDw13.out).alloc (.cells #[.int .i64 3,.string ⟨#[]⟩,.string ⟨#[]⟩,.slice none 0 0,.int .i64 0,.slice none 0 0,.slice none 0 0,.slice AT s2.fields.length cT] 77)) hgx (fun k _ e => by cases e)); have hTw14:=Hj (own_kpg ((hTw13.out).alloc (.cells #[.int .i64 3,.string ⟨#[]⟩,.string ⟨#[]⟩,.slice none 0 0,.int .i64 0,.slice none 0 0,.slice none 0 0,.slice AT s2.fields.length cT] 77)) hgx (fun k _ e => by cases e)); clear hgx hat)
       obtain ⟨Ao0,co0,rfl,-,-,-⟩:=id (Rd.own how14)
       replace how14:=Hj how14; have c2:=hCw14.out.cell 2; have cf2:=hCw14.out.frozen 2; go_upto_region 25 with (fail)
       clear c2 cf2; have hs : Kp (· = g) w14 (w14.setCell ⟨g,2,none⟩ (.bool false)):=(Kp.refl (· = g) w14).set_ (g:=g) (fun _ => rfl) 2 (.bool false)
       have hCw15 : Blk (w14.setCell ⟨g,2,none⟩ (.bool false)) g 73 #[.bool resp,.bool closed,.bool false,.slice Am meth.length cm,.int .i64 (many : Int),.slice (some ⟨b0,ob,none⟩) 0 0,.int .i64 (kind : Int),.int .i64 (len : Int),.pointer (some ⟨gd,0,none⟩),.nilIface]:=(hCw14.out.set_ 2 (.bool false))
       have hkw15:=hkw14.out.next (fun k _ e => Or.inl e) hs; have hzw15:=Nat.le_trans hzw14.out hs.size; have hlw15:=hlw14.out.trans hs; have hDw15:=hDw14.out.kp (fun k hk e => by have:=(World.ownsRow.lt hDw14.out k hk).1; have:=hgB.out; omega) hs
       have hTw15:=hTw14.out.kp (fun k hk e => by have:=(World.ownsRow.lt hTw14.out k hk).1; have:=hgB.out; omega) hs
       have how15:=how14.out.kp (fun k hk e => by have:=(World.ownsRow.lt how14.out k hk).1; have:=hgB.out; omega) hs
       generalize (w14.setCell ⟨g,2,none⟩ (.bool false)) = w15 at *; clear hs; replace hCw15:=Hj hCw15; replace hkw15:=Hj hkw15; replace hzw15:=Hj hzw15; replace hDw15:=Hj hDw15; replace hTw15:=Hj hTw15; replace how15:=Hj how15; replace hlw15:=Hj hlw15; cases resp with
       | false =>
        have c0:=hCw15.out.cell 0; go_wp2; go_ret; have hes : Cn.evs D true s2.fields = [Cn.evEnd s2.fields]:=by unfold Cn.evs; rw [if_pos hD0.out]; rfl
        refine Cn.PartR.mk (c:=(Cn.C.mk false closed true meth many buf kind len dec 0)) (B:=w5.heap.size) (F':=fun k => F k ∨ Fd5 k) (D:=D) (dn:=true) (T:=s2.fields) (er:=0) (meth':=meth) (buf':=(buf.drop nT)) hL.out rfl hpD.out hpN.out (fun _ => hpT.out) hpE0.out hpB.out rfl (by rw [hes]; exact (Cn.EvsC.one (Cn.evC_end (L:=s2.fields) (Rd.own hTw15.out) (On.own hTw15.out)))) (by rw [hes]; exact how15.out) hBw.out hFB.out hzw15.out (.inl hF.out) hFF.out (kpF2.out _ hkw15.out) hCw15.out ?_
        intro _; obtain ⟨k1,⟨k2a,k2b,k2c,k2d⟩,k3⟩:=hcut.out.rd hbuf.out
        refine ⟨hmeth.out.kp hmoff.out hkw15.out,hL.out.methF.mono (fun k h => ⟨.inl h.1,h.2⟩),⟨_,_,k2d,fun e => (by cases e),fun _ => ⟨k2a,k2b,rfl⟩⟩,k1.kp ((k3 _ (show On (fun k => ¬ (k = g ∨ Fd k)) _ from hboff.out)).off fun k h => h) hkw15.out,(k3 _ hL.out.bufF).mono (fun k h => ⟨.inl h.1,h.2⟩),fun hd => ?_⟩
        cases hd
       | true =>
        obtain ⟨bm,om,hAm⟩ : ∃ b o,Am = some ⟨b,o,none⟩:=by
         obtain ⟨Ax,cx,ex,-,-,rx⟩:=id hmeth.out; cases ex
         obtain ⟨b,o,e,-⟩:=rx (List.length_pos_iff.2 (hone.out rfl))
         exact ⟨b,o,e⟩
        subst hAm; have gml : 0 < meth.length:=List.length_pos_iff.2 (hone.out rfl)
        by_cases hcm1 : cm = 1
        ·obtain rfl:=hcm1
         obtain ⟨m1,hm1⟩ : ∃ m,meth = [m]:=List.length_eq_one_iff.1 (by omega)
         subst hm1; have c0:=hCw15.out.cell 0; have c3:=hCw15.out.cell 3; have cf3:=hCw15.out.frozen 3; go_upto_region 27 with (fail)
         clear c0 c3 cf3; have hs : Kp (· = g) w15 (w15.setCell ⟨g,3,none⟩ (.slice (some ⟨bm,om,none⟩) 0 0)):=(Kp.refl (· = g) w15).set_ (g:=g) (fun _ => rfl) 3 (.slice (some ⟨bm,om,none⟩) 0 0)
         have hCw16 : Blk (w15.setCell ⟨g,3,none⟩ (.slice (some ⟨bm,om,none⟩) 0 0)) g 73 #[.bool true,.bool closed,.bool false,.slice (some ⟨bm,om,none⟩) 0 0,.int .i64 (many : Int),.slice (some ⟨b0,ob,none⟩) 0 0,.int .i64 (kind : Int),.int .i64 (len : Int),.pointer (some ⟨gd,0,none⟩),.nilIface]:=(hCw15.out.set_ 3 (.slice (some ⟨bm,om,none⟩) 0 0))
         have hkw16:=hkw15.out.next (fun k _ e => Or.inl e) hs; have hzw16:=Nat.le_trans hzw15.out hs.size; have hlw16:=hlw15.out.trans hs; have hDw16:=hDw15.out.kp (fun k hk e => by have:=(World.ownsRow.lt hDw15.out k hk).1; have:=hgB.out; omega) hs
         have hTw16:=hTw15.out.kp (fun k hk e => by have:=(World.ownsRow.lt hTw15.out k hk).1; have:=hgB.out; omega) hs
         have how16:=how15.out.kp (fun k hk e => by have:=(World.ownsRow.lt how15.out k hk).1; have:=hgB.out; omega) hs
         generalize (w15.setCell ⟨g,3,none⟩ (.slice (some ⟨bm,om,none⟩) 0 0)) = w16 at *; clear hs; replace hCw16:=Hj hCw16; replace hkw16:=Hj hkw16; replace hzw16:=Hj hzw16; replace hDw16:=Hj hDw16; replace hTw16:=Hj hTw16; replace how16:=Hj how16; replace hlw16:=Hj hlw16; obtain ⟨bx,ox,ex,t1,t2,t3⟩:=Cn.meth_tail (G:=fun k => k = g ∨ Fd k) (F':=fun k => F k ∨ Fd5 k) hmeth.out (by simp) hkw16.out hL.out.methF hmoff.out (fun k h => .inl h)
         cases ex
         have hmt:=Hj (t1 rfl); have hmO:=Hj (t3 (.slice (some ⟨bm,om,none⟩) 0 0) rfl); clear t1 t2 t3; go_wp2; go_ret; have hes : Cn.evs D true s2.fields = [Cn.evEnd s2.fields]:=by unfold Cn.evs; rw [if_pos hD0.out]; rfl
         refine Cn.PartR.mk (c:=(Cn.C.mk true closed true [m1] many buf kind len dec 0)) (B:=w5.heap.size) (F':=fun k => F k ∨ Fd5 k) (D:=D) (dn:=true) (T:=s2.fields) (er:=0) (meth':=([] : List (List UInt8))) (buf':=(buf.drop nT)) hL.out rfl hpD.out hpN.out (fun _ => hpT.out) hpE0.out hpB.out rfl (by rw [hes]; exact (Cn.EvsC.one (Cn.evC_end (L:=s2.fields) (Rd.own hTw16.out) (On.own hTw16.out)))) (by rw [hes]; exact how16.out) hBw.out hFB.out hzw16.out (.inl hF.out) hFF.out (kpF2.out _ hkw16.out) hCw16.out ?_
         intro _; obtain ⟨k1,⟨k2a,k2b,k2c,k2d⟩,k3⟩:=hcut.out.rd hbuf.out
         refine ⟨hmt.out,hmO.out,⟨_,_,k2d,fun e => (by cases e),fun _ => ⟨k2a,k2b,rfl⟩⟩,k1.kp ((k3 _ (show On (fun k => ¬ (k = g ∨ Fd k)) _ from hboff.out)).off fun k h => h) hkw16.out,(k3 _ hL.out.bufF).mono (fun k h => ⟨.inl h.1,h.2⟩),fun hd => ?_⟩
         cases hd
        ·obtain ⟨cm2,rfl⟩ : ∃ c,cm = c + 2:=⟨cm - 2,by omega⟩
         obtain ⟨m1,mr,hm1⟩ : ∃ m r,meth = m :: r:=by
          cases hx : meth with
          | nil => rw [hx] at gml; cases gml
          | cons m r => exact ⟨m,r,rfl⟩
         subst hm1; have c0:=hCw15.out.cell 0; have c3:=hCw15.out.cell 3; have cf3:=hCw15.out.frozen 3; go_upto_region 27 with (fail)
         clear c0 c3 cf3; have hs : Kp (· = g) w15 (w15.setCell ⟨g,3,none⟩ (.slice (some ⟨bm,om + 1,none⟩) mr.length (cm2 + 1))):=(Kp.refl (· = g) w15).set_ (g:=g) (fun _ => rfl) 3 (.slice (some ⟨bm,om + 1,none⟩) mr.length (cm2 + 1))
         have hCw16 : Blk (w15.setCell ⟨g,3,none⟩ (.slice (some ⟨bm,om + 1,none⟩) mr.length (cm2 + 1))) g 73 #[.bool true,.bool closed,.bool false,.slice (some ⟨bm,om + 1,none⟩) mr.length (cm2 + 1),.int .i64 (many : Int),.slice (some ⟨b0,ob,none⟩) 0 0,.int .i64 (kind : Int),.int .i64 (len : Int),.pointer (some ⟨gd,0,none⟩),.nilIface]:=(hCw15.out.set_ 3 (.slice (some ⟨bm,om + 1,none⟩) mr.length (cm2 + 1)))
         have hkw16:=hkw15.out.next (fun k _ e => Or.inl e) hs; have hzw16:=Nat.le_trans hzw15.out hs.size; have hlw16:=hlw15.out.trans hs; have hDw16:=hDw15.out.kp (fun k hk e => by have:=(World.ownsRow.lt hDw15.out k hk).1; have:=hgB.out; omega) hs
         have hTw16:=hTw15.out.kp (fun k hk e => by have:=(World.ownsRow.lt hTw15.out k hk).1; have:=hgB.out; omega) hs
         have how16:=how15.out.kp (fun k hk e => by have:=(World.ownsRow.lt how15.out k hk).1; have:=hgB.out; omega) hs
         generalize (w15.setCell ⟨g,3,none⟩ (.slice (some ⟨bm,om + 1,none⟩) mr.length (cm2 + 1))) = w16 at *; clear hs; replace hCw16:=Hj hCw16; replace hkw16:=Hj hkw16; replace hzw16:=Hj hzw16; replace hDw16:=Hj hDw16; replace hTw16:=Hj hTw16; replace how16:=Hj how16; replace hlw16:=Hj hlw16; obtain ⟨bx,ox,ex,t1,t2,t3⟩:=Cn.meth_tail (G:=fun k => k = g ∨ Fd k) (F':=fun k => F k ∨ Fd5 k) hmeth.out (by simp) hkw16.out hL.out.methF hmoff.out (fun k h => .inl h)
         cases ex
         have hmt:=Hj (t2 (by omega)); have hmO:=Hj (t3 (.slice (some ⟨bm,om + 1,none⟩) mr.length (cm2 + 1)) rfl); clear t1 t2 t3; go_wp2; go_ret; have hes : Cn.evs D true s2.fields = [Cn.evEnd s2.fields]:=by unfold Cn.evs; rw [if_pos hD0.out]; rfl
         refine Cn.PartR.mk (c:=(Cn.C.mk true closed true (m1 :: mr) many buf kind len dec 0)) (B:=w5.heap.size) (F':=fun k => F k ∨ Fd5 k) (D:=D) (dn:=true) (T:=s2.fields) (er:=0) (meth':=mr) (buf':=(buf.drop nT)) hL.out rfl hpD.out hpN.out (fun _ => hpT.out) hpE0.out hpB.out rfl (by rw [hes]; exact (Cn.EvsC.one (Cn.evC_end (L:=s2.fields) (Rd.own hTw16.out) (On.own hTw16.out)))) (by rw [hes]; exact how16.out) hBw.out hFB.out hzw16.out (.inl hF.out) hFF.out (kpF2.out _ hkw16.out) hCw16.out ?_
         intro _; obtain ⟨k1,⟨k2a,k2b,k2c,k2d⟩,k3⟩:=hcut.out.rd hbuf.out
         refine ⟨hmt.out,hmO.out,⟨_,_,k2d,fun e => (by cases e),fun _ => ⟨k2a,k2b,rfl⟩⟩,k1.kp ((k3 _ (show On (fun k => ¬ (k = g ∨ Fd k)) _ from hboff.out)).off fun k h => h) hkw16.out,(k3 _ hL.out.bufF).mono (fun k h => ⟨.inl h.1,h.2⟩),fun hd => ?_⟩
         cases hd
      ·have gD : (0 : Int) < (D.length : Int):=by have:=List.length_pos_iff.2 hD0; skip; omega
       replace hD0:=Hj hD0; go_upto_region 21 with (fail)
       go_upto_region 22 with (at_builtin; go_loud (refine push_ev (v:=Value.slice none 0 0) (n:=0) (xs:=[]) (B:=w5.heap.size) _ _ rfl rfl rfl (own_nil w13 (w5.heap.size) 77 8) rfl (by intro u hu; simp only [List.mem_cons,List.mem_nil_iff,or_false] at hu; rcases hu with rfl | rfl | rfl | rfl | rfl | rfl | rfl | rfl <;> rfl) (by omega) hzw13.out ?_); intro vo0 w14 how14 hgx hat; have hCw14:=Hj (Blk.grown8 (hCw13.out.alloc (.cells #[.int .i64 2,.string ⟨#[]⟩,.string ⟨#[]⟩,.slice none 0 0,.int .i64 0,.slice none 0 0,.slice AD D.length cD,.slice none 0 0] 77)) hgx (fun e => by cases e)); have hkw14:=Hj ((hkw13.out.alloc (.cells #[.int .i64 2,.string ⟨#[]⟩,.string ⟨#[]⟩,.slice none 0 0,.int .i64 0,.slice none 0 0,.slice AD D.length cD,.slice none 0 0] 77)).grown hgx (fun k e => by cases e)); have hzw14:=Hj (Nat.le_trans (Nat.le_trans hzw13.out (by rw [alloc_size']; omega)) hgx.size); have hlw14:=Hj ((hlw13.out.alloc (.cells #[.int .i64 2,.string ⟨#[]⟩,.string ⟨#[]⟩,.slice none 0 0,.int .i64 0,.slice none 0 0,.slice AD D.length cD,.slice none 0 0] 77)).grown hgx (fun k e => by cases e)); have hDw14:=Hj (own_kpg ((hDw13.out).alloc (.cells #[.int .i64 2,.string ⟨#[]⟩,.string ⟨#[]⟩,.slice none 0 0,.int .i64 0,.slice none 0 0,.slice AD D.length cD,.slice none 0 0] 77)) hgx (fun k _ e => by cases e)); have hTw14:=Hj (own_kpg ((hTw13.out).alloc (.cells #[.int .i64 2,.string ⟨#[]⟩,.string ⟨#[]⟩,.slice none 0 0,.int .i64 0,.slice none 0 0,.slice AD D.length cD,.slice none 0 0] 77)) hgx (fun k _ e => by cases e)); clear hgx hat)
       obtain ⟨Ao0,co0,rfl,-,-,-⟩:=id (Rd.own how14)
       replace how14:=Hj how14
       go_upto_region 24 with (at_builtin; go_loud (refine push_ev (v:=(.slice Ao0 1 co0)) (n:=1) (xs:=[.int .i64 2,.string ⟨#[]⟩,.string ⟨#[]⟩,.slice none 0 0,.int .i64 0,.slice none 0 0,.slice AD D.length cD,.slice none 0 0]) (B:=w5.heap.size) _ _ rfl rfl rfl how14.out rfl (by intro u hu; simp only [List.mem_cons,List.mem_nil_iff,or_false] at hu; rcases hu with rfl | rfl | rfl | rfl | rfl | rfl | rfl | rfl <;> rfl) (by omega) hzw14.out ?_); intro vo1 w15 how15 hgx hat; have hCw15:=Hj (Blk.grown8 (hCw14.out.alloc (.cells #[.int .i64 3,.string ⟨#[]⟩,.string ⟨#[]⟩,.slice none 0 0,.int .i64 0,.slice none 0 0,.slice none 0 0,.slice AT s2.fields.length cT] 77)) hgx (fun e => by have:=(World.ownsRow.lt how14.out g e).1; have:=hgB.out; omega)); have hkw15:=Hj ((hkw14.out.alloc (.cells #[.int .i64 3,.string ⟨#[]⟩,.string ⟨#[]⟩,.slice none 0 0,.int .i64 0,.slice none 0 0,.slice none 0 0,.slice AT s2.fields.length cT] 77)).grown hgx (fun k e hlt => by have:=(World.ownsRow.lt how14.out k e).1; have:=hBw.out; omega)); have hzw15:=Hj (Nat.le_trans (Nat.le_trans hzw14.out (by rw [alloc_size']; omega)) hgx.size); have hlw15:=Hj ((hlw14.out.alloc (.cells #[.int .i64 3,.string ⟨#[]⟩,.string ⟨#[]⟩,.slice none 0 0,.int .i64 0,.slice none 0 0,.slice none 0 0,.slice AT s2.fields.length cT] 77)).grown hgx (fun k e hlt => by have:=(World.ownsRow.lt how14.out k e).1; omega)); have hDw15:=Hj (own_kpg ((hDw14.out).alloc (.cells #[.int .i64 3,.string ⟨#[]⟩,.string ⟨#[]⟩,.slice none 0 0,.int .i64 0,.slice none 0 0,.slice none 0 0,.slice AT s2.fields.length cT] 77)) hgx (fun k hk e => (hDw14.out.apart how14.out (by decide) hk) e)); have hTw15:=Hj (own_kpg ((hTw14.out).alloc (.cells #[.int .i64 3,.string ⟨#[]⟩,.string ⟨#[]⟩,.slice none 0 0,.int .i64 0,.slice none 0 0,.slice none 0 0,.slice AT s2.fields.length cT] 77)) hgx (fun k hk e => (hTw14.out.apart how14.out (by decide) hk) e)); clear hgx hat)
       obtain ⟨Ao1,co1,rfl,-,-,-⟩:=id (Rd.own how15)
       replace how15:=Hj how15; have c2:=hCw15.out.cell 2; have cf2:=hCw15.out.frozen 2; go_upto_region 25 with (fail)
       clear c2 cf2; have hs : Kp (· = g) w15 (w15.setCell ⟨g,2,none⟩ (.bool false)):=(Kp.refl (· = g) w15).set_ (g:=g) (fun _ => rfl) 2 (.bool false)
       have hCw16 : Blk (w15.setCell ⟨g,2,none⟩ (.bool false)) g 73 #[.bool resp,.bool closed,.bool false,.slice Am meth.length cm,.int .i64 (many : Int),.slice (some ⟨b0,ob,none⟩) 0 0,.int .i64 (kind : Int),.int .i64 (len : Int),.pointer (some ⟨gd,0,none⟩),.nilIface]:=(hCw15.out.set_ 2 (.bool false))
       have hkw16:=hkw15.out.next (fun k _ e => Or.inl e) hs; have hzw16:=Nat.le_trans hzw15.out hs.size; have hlw16:=hlw15.out.trans hs; have hDw16:=hDw15.out.kp (fun k hk e => by have:=(World.ownsRow.lt hDw15.out k hk).1; have:=hgB.out; omega) hs
       have hTw16:=hTw15.out.kp (fun k hk e => by have:=(World.ownsRow.lt hTw15.out k hk).1; have:=hgB.out; omega) hs
       have how16:=how15.out.kp (fun k hk e => by have:=(World.ownsRow.lt how15.out k hk).1; have:=hgB.out; omega) hs
       generalize (w15.setCell ⟨g,2,none⟩ (.bool false)) = w16 at *; clear hs; replace hCw16:=Hj hCw16; replace hkw16:=Hj hkw16; replace hzw16:=Hj hzw16; replace hDw16:=Hj hDw16; replace hTw16:=Hj hTw16; replace how16:=Hj how16; replace hlw16:=Hj hlw16; cases resp with
       | false =>
        have c0:=hCw16.out.cell 0; go_wp2; go_ret; have hes : Cn.evs D true s2.fields = [Cn.evData D] ++ [Cn.evEnd s2.fields]:=by unfold Cn.evs; rw [if_neg hD0.out]; rfl
        refine Cn.PartR.mk (c:=(Cn.C.mk false closed true meth many buf kind len dec 0)) (B:=w5.heap.size) (F':=fun k => F k ∨ Fd5 k) (D:=D) (dn:=true) (T:=s2.fields) (er:=0) (meth':=meth) (buf':=(buf.drop nT)) hL.out rfl hpD.out hpN.out (fun _ => hpT.out) hpE0.out hpB.out rfl (by rw [hes]; exact ((Cn.EvsC.one (Cn.evC_data (Rd.own hDw16.out) (On.own hDw16.out))).app (Cn.EvsC.one (Cn.evC_end (L:=s2.fields) (Rd.own hTw16.out) (On.own hTw16.out))))) (by rw [hes]; exact how16.out) hBw.out hFB.out hzw16.out (.inl hF.out) hFF.out (kpF2.out _ hkw16.out) hCw16.out ?_
        intro _; obtain ⟨k1,⟨k2a,k2b,k2c,k2d⟩,k3⟩:=hcut.out.rd hbuf.out
        refine ⟨hmeth.out.kp hmoff.out hkw16.out,hL.out.methF.mono (fun k h => ⟨.inl h.1,h.2⟩),⟨_,_,k2d,fun e => (by cases e),fun _ => ⟨k2a,k2b,rfl⟩⟩,k1.kp ((k3 _ (show On (fun k => ¬ (k = g ∨ Fd k)) _ from hboff.out)).off fun k h => h) hkw16.out,(k3 _ hL.out.bufF).mono (fun k h => ⟨.inl h.1,h.2⟩),fun hd => ?_⟩
        cases hd
       | true =>
        obtain ⟨bm,om,hAm⟩ : ∃ b o,Am = some ⟨b,o,none⟩:=by
         obtain ⟨Ax,cx,ex,-,-,rx⟩:=id hmeth.out; cases ex
         obtain ⟨b,o,e,-⟩:=rx (List.length_pos_iff.2 (hone.out rfl))
         exact ⟨b,o,e⟩
        subst hAm; have gml : 0 < meth.length:=List.length_pos_iff.2 (hone.out rfl)
        by_cases hcm1 : cm = 1
        ·obtain rfl:=hcm1
         obtain ⟨m1,hm1⟩ : ∃ m,meth = [m]:=List.length_eq_one_iff.1 (by omega)
         subst hm1; have c0:=hCw16.out.cell 0; have c3:=hCw16.out.cell 3; have cf3:=hCw16.out.frozen 3; go_upto_region 27 with (fail)
         clear c0 c3 cf3; have hs : Kp (· = g) w16 (w16.setCell ⟨g,3,none⟩ (.slice (some ⟨bm,om,none⟩) 0 0)):=(Kp.refl (· = g) w16).set_ (g:=g) (fun _ => rfl) 3 (.slice (some ⟨bm,om,none⟩) 0 0)
         have hCw17 : Blk (w16.setCell ⟨g,3,none⟩ (.slice (some ⟨bm,om,none⟩) 0 0)) g 73 #[.bool true,.bool closed,.bool false,.slice (some ⟨bm,om,none⟩) 0 0,.int .i64 (many : Int),.slice (some ⟨b0,ob,none⟩) 0 0,.int .i64 (kind : Int),.int .i64 (len : Int),.pointer (some ⟨gd,0,none⟩),.nilIface]:=(hCw16.out.set_ 3 (.slice (some ⟨bm,om,none⟩) 0 0))
         have hkw17:=hkw16.out.next (fun k _ e => Or.inl e) hs; have hzw17:=Nat.le_trans hzw16.out hs.size; have hlw17:=hlw16.out.trans hs; have hDw17:=hDw16.out.kp (fun k hk e => by have:=(World.ownsRow.lt hDw16.out k hk).1; have:=hgB.out; omega) hs
         have hTw17:=hTw16.out.kp (fun k hk e => by have:=(World.ownsRow.lt hTw16.out k hk).1; have:=hgB.out; omega) hs
         have how17:=how16.out.kp (fun k hk e => by have:=(World.ownsRow.lt how16.out k hk).1; have:=hgB.out; omega) hs
         generalize (w16.setCell ⟨g,3,none⟩ (.slice (some ⟨bm,om,none⟩) 0 0)) = w17 at *; clear hs; replace hCw17:=Hj hCw17; replace hkw17:=Hj hkw17; replace hzw17:=Hj hzw17; replace hDw17:=Hj hDw17; replace hTw17:=Hj hTw17; replace how17:=Hj how17; replace hlw17:=Hj hlw17; obtain ⟨bx,ox,ex,t1,t2,t3⟩:=Cn.meth_tail (G:=fun k => k = g ∨ Fd k) (F':=fun k => F k ∨ Fd5 k) hmeth.out (by simp) hkw17.out hL.out.methF hmoff.out (fun k h => .inl h)
         cases ex
         have hmt:=Hj (t1 rfl); have hmO:=Hj (t3 (.slice (some ⟨bm,om,none⟩) 0 0) rfl); clear t1 t2 t3; go_wp2; go_ret; have hes : Cn.evs D true s2.fields = [Cn.evData D] ++ [Cn.evEnd s2.fields]:=by unfold Cn.evs; rw [if_neg hD0.out]; rfl
         refine Cn.PartR.mk (c:=(Cn.C.mk true closed true [m1] many buf kind len dec 0)) (B:=w5.heap.size) (F':=fun k => F k ∨ Fd5 k) (D:=D) (dn:=true) (T:=s2.fields) (er:=0) (meth':=([] : List (List UInt8))) (buf':=(buf.drop nT)) hL.out rfl hpD.out hpN.out (fun _ => hpT.out) hpE0.out hpB.out rfl (by rw [hes]; exact ((Cn.EvsC.one (Cn.evC_data (Rd.own hDw17.out) (On.own hDw17.out))).app (Cn.EvsC.one (Cn.evC_end (L:=s2.fields) (Rd.own hTw17.out) (On.own hTw17.out))))) (by rw [hes]; exact how17.out) hBw.out hFB.out hzw17.out (.inl hF.out) hFF.out (kpF2.out _ hkw17.out) hCw17.out ?_
         intro _; obtain ⟨k1,⟨k2a,k2b,k2c,k2d⟩,k3⟩:=hcut.out.rd hbuf.out
         refine ⟨hmt.out,hmO.out,⟨_,_,k2d,fun e => (by cases e),fun _ => ⟨k2a,k2b,rfl⟩⟩,k1.kp ((k3 _ (show On (fun k => ¬ (k = g ∨ Fd k)) _ from hboff.out)).off fun k h => h) hkw17.out,(k3 _ hL.out.bufF).mono (fun k h => ⟨.inl h.1,h.2⟩),fun hd => ?_⟩
         cases hd
        ·obtain ⟨cm2,rfl⟩ : ∃ c,cm = c + 2:=⟨cm - 2,by omega⟩
         obtain ⟨m1,mr,hm1⟩ : ∃ m r,meth = m :: r:=by
          cases hx : meth with
          | nil => rw [hx] at gml; cases gml
          | cons m r => exact ⟨m,r,rfl⟩
         subst hm1; have c0:=hCw16.out.cell 0; have c3:=hCw16.out.cell 3; have cf3:=hCw16.out.frozen 3; go_upto_region 27 with (fail)
         clear c0 c3 cf3; have hs : Kp (· = g) w16 (w16.setCell ⟨g,3,none⟩ (.slice (some ⟨bm,om + 1,none⟩) mr.length (cm2 + 1))):=(Kp.refl (· = g) w16).set_ (g:=g) (fun _ => rfl) 3 (.slice (some ⟨bm,om + 1,none⟩) mr.length (cm2 + 1))
         have hCw17 : Blk (w16.setCell ⟨g,3,none⟩ (.slice (some ⟨bm,om + 1,none⟩) mr.length (cm2 + 1))) g 73 #[.bool true,.bool closed,.bool false,.slice (some ⟨bm,om + 1,none⟩) mr.length (cm2 + 1),.int .i64 (many : Int),.slice (some ⟨b0,ob,none⟩) 0 0,.int .i64 (kind : Int),.int .i64 (len : Int),.pointer (some ⟨gd,0,none⟩),.nilIface]:=(hCw16.out.set_ 3 (.slice (some ⟨bm,om + 1,none⟩) mr.length (cm2 + 1)))
         have hkw17:=hkw16.out.next (fun k _ e => Or.inl e) hs; have hzw17:=Nat.le_trans hzw16.out hs.size; have hlw17:=hlw16.out.trans hs; have hDw17:=hDw16.out.kp (fun k hk e => by have:=(World.ownsRow.lt hDw16.out k hk).1; have:=hgB.out; omega) hs
         have hTw17:=hTw16.out.kp (fun k hk e => by have:=(World.ownsRow.lt hTw16.out k hk).1; have:=hgB.out; omega) hs
         have how17:=how16.out.kp (fun k hk e => by have:=(World.ownsRow.lt how16.out k hk).1; have:=hgB.out; omega) hs
         generalize (w16.setCell ⟨g,3,none⟩ (.slice (some ⟨bm,om + 1,none⟩) mr.length (cm2 + 1))) = w17 at *; clear hs; replace hCw17:=Hj hCw17; replace hkw17:=Hj hkw17; replace hzw17:=Hj hzw17; replace hDw17:=Hj hDw17; replace hTw17:=Hj hTw17; replace how17:=Hj how17; replace hlw17:=Hj hlw17; obtain ⟨bx,ox,ex,t1,t2,t3⟩:=Cn.meth_tail (G:=fun k => k = g ∨ Fd k) (F':=fun k => F k ∨ Fd5 k) hmeth.out (by simp) hkw17.out hL.out.methF hmoff.out (fun k h => .inl h)
         cases ex
         have hmt:=Hj (t2 (by omega)); have hmO:=Hj (t3 (.slice (some ⟨bm,om + 1,none⟩) mr.length (cm2 + 1)) rfl); clear t1 t2 t3; go_wp2; go_ret; have hes : Cn.evs D true s2.fields = [Cn.evData D] ++ [Cn.evEnd s2.fields]:=by unfold Cn.evs; rw [if_neg hD0.out]; rfl
         refine Cn.PartR.mk (c:=(Cn.C.mk true closed true (m1 :: mr) many buf kind len dec 0)) (B:=w5.heap.size) (F':=fun k => F k ∨ Fd5 k) (D:=D) (dn:=true) (T:=s2.fields) (er:=0) (meth':=mr) (buf':=(buf.drop nT)) hL.out rfl hpD.out hpN.out (fun _ => hpT.out) hpE0.out hpB.out rfl (by rw [hes]; exact ((Cn.EvsC.one (Cn.evC_data (Rd.own hDw17.out) (On.own hDw17.out))).app (Cn.EvsC.one (Cn.evC_end (L:=s2.fields) (Rd.own hTw17.out) (On.own hTw17.out))))) (by rw [hes]; exact how17.out) hBw.out hFB.out hzw17.out (.inl hF.out) hFF.out (kpF2.out _ hkw17.out) hCw17.out ?_
         intro _; obtain ⟨k1,⟨k2a,k2b,k2c,k2d⟩,k3⟩:=hcut.out.rd hbuf.out
         refine ⟨hmt.out,hmO.out,⟨_,_,k2d,fun e => (by cases e),fun _ => ⟨k2a,k2b,rfl⟩⟩,k1.kp ((k3 _ (show On (fun k => ¬ (k = g ∨ Fd k)) _ from hboff.out)).off fun k h => h) hkw17.out,(k3 _ hL.out.bufF).mono (fun k h => ⟨.inl h.1,h.2⟩),fun hd => ?_⟩
         cases hd
     ·have hlt2 : nT < cap:=by omega
      have hcut : Hid (Cn.CutB (some ⟨b0,ob,none⟩) buf.length cap nT (.slice (some ⟨b0,ob + nT,none⟩) (buf.length - nT) (cap - nT))):=⟨b0,ob,rfl,hNl,hcap,.inl ⟨hlt2,rfl⟩⟩
      have c5:=hCw11.out.cell 5; have c9:=hCw11.out.cell 9; have cf5:=hCw11.out.frozen 5; have cf9:=hCw11.out.frozen 9; go_upto_region 17 with (fail)
      clear c5 c9 cf5 cf9; have hs : Kp (· = g) w11 ((w11.setCell ⟨g,5,none⟩ (.slice (some ⟨b0,ob + nT,none⟩) (buf.length - nT) (cap - nT))).setCell ⟨g,9,none⟩ (.nilIface)):=((Kp.refl (· = g) w11).set_ (g:=g) (fun _ => rfl) 5 (.slice (some ⟨b0,ob + nT,none⟩) (buf.length - nT) (cap - nT))).set_ (g:=g) (fun _ => rfl) 9 (.nilIface)
      have hCw12 : Blk ((w11.setCell ⟨g,5,none⟩ (.slice (some ⟨b0,ob + nT,none⟩) (buf.length - nT) (cap - nT))).setCell ⟨g,9,none⟩ (.nilIface)) g 73 #[.bool resp,.bool closed,.bool true,.slice Am meth.length cm,.int .i64 (many : Int),.slice (some ⟨b0,ob + nT,none⟩) (buf.length - nT) (cap - nT),.int .i64 (kind : Int),.int .i64 (len : Int),.pointer (some ⟨gd,0,none⟩),.nilIface]:=((hCw11.out.set_ 5 (.slice (some ⟨b0,ob + nT,none⟩) (buf.length - nT) (cap - nT))).set_ 9 (.nilIface))
      have hkw12:=hkw11.out.next (fun k _ e => Or.inl e) hs; have hzw12:=Nat.le_trans hzw11.out hs.size; have hlw12:=hlw11.out.trans hs; have hDw12:=hDw11.out.kp (fun k hk e => by have:=(World.ownsRow.lt hDw11.out k hk).1; have:=hgB.out; omega) hs
      generalize ((w11.setCell ⟨g,5,none⟩ (.slice (some ⟨b0,ob + nT,none⟩) (buf.length - nT) (cap - nT))).setCell ⟨g,9,none⟩ (.nilIface)) = w12 at *; clear hs; replace hCw12:=Hj hCw12; replace hkw12:=Hj hkw12; replace hzw12:=Hj hzw12; replace hDw12:=Hj hDw12; replace hlw12:=Hj hlw12; have hD6:=Hj (hD5.out.kp hlw12.out (fun k h e => hng5.out (e ▸ h))); have c8:=hCw12.out.cell 8; go_wp2_with fail
      refine (cdone_any hD6.out).mono ?_
      rintro e wx ⟨rfl,hwx⟩
      subst wx; rw [show decide (s2.place = 8) = true from decide_eq_true h8.out]
      go_wp2_with fail
      refine (ctrail_any hD6.out (fun _ => hb0.out)).mono ?_
      rintro e w13 ⟨vT,rfl,hTw13,hbT⟩
      rw [if_pos h8.out] at hTw13
      have hCw13:=Hj (hCw12.out.below hbT); have hkw13:=Hj (hkw12.out.below hbT); have hlw13:=Hj (hlw12.out.below hbT); have hzw13:=Hj (Nat.le_trans hzw12.out hbT.size); have hDw13:=Hj (own_below hDw12.out hbT); replace hTw13:=Hj (hTw13.base hzw12.out); obtain ⟨AT,cT,rfl,-,-,-⟩:=id (Rd.own hTw13.out)
      clear hbT; clear c8; go_upto_region 20 with (fail)
      by_cases hD0 : D = []
      ·have gD : ¬ (0 : Int) < (D.length : Int):=by rw [show D.length = 0 from by rw [hD0]; rfl]; decide
       have gD2 : D.length = 0:=by omega
       replace gD2:=Hj gD2; replace hD0:=Hj hD0; skip
       go_upto_region 24 with (at_builtin; go_loud (refine push_ev (v:=Value.slice none 0 0) (n:=0) (xs:=[]) (B:=w5.heap.size) _ _ rfl rfl rfl (own_nil w13 (w5.heap.size) 77 8) rfl (by intro u hu; simp only [List.mem_cons,List.mem_nil_iff,or_false] at hu; rcases hu with rfl | rfl | rfl | rfl | rfl | rfl | rfl | rfl <;> rfl) (by omega) hzw13.out ?_); intro vo0 w14 how14 hgx hat; have hCw14:=Hj (Blk.grown8 (hCw13.out.alloc (.cells #[.int .i64 3,.string ⟨#[]⟩,.string ⟨#[]⟩,.slice none 0 0,.int .i64 0,.slice none 0 0,.slice none 0 0,.slice AT s2.fields.length cT] 77)) hgx (fun e => by cases e)); have hkw14:=Hj ((hkw13.out.alloc (.cells #[.int .i64 3,.string ⟨#[]⟩,.string ⟨#[]⟩,.slice none 0 0,.int .i64 0,.slice none 0 0,.slice none 0 0,.slice AT s2.fields.length cT] 77)).grown hgx (fun k e => by cases e)); have hzw14:=Hj (Nat.le_trans (Nat.le_trans hzw13.out (by rw [alloc_size']; omega)) hgx.size); have hlw14:=Hj ((hlw13.out.alloc (.cells #[.int .i64 3,.string ⟨#[]⟩,.string ⟨#[]⟩,.slice none 0 0,.int .i64 0,.slice none 0 0,.slice none 0 0,.slice AT s2.fields.length cT] 77)).grown hgx (fun k e => by cases e)); have hDw14:=Hj (own_kpg ((hDw13.out).alloc (.cells #[.int .i64 3,.string ⟨#[]⟩,.string ⟨#[]⟩,.slice none 0 0,.int .i64 0,.slice none 0 0,.slice none 0 0,.slice AT s2.fields.length cT] 77)) hgx (fun k _ e => by cases e)); have hTw14:=Hj (own_kpg ((hTw13.out).alloc (.cells #[.int .i64 3,.string ⟨#[]⟩,.string ⟨#[]⟩,.slice none 0 0,.int .i64 0,.slice none 0 0,.slice none 0 0,.slice AT s2.fields.length cT] 77)) hgx (fun k _ e => by cases e)); clear hgx hat)
       obtain ⟨Ao0,co0,rfl,-,-,-⟩:=id (Rd.own how14)
       replace how14:=Hj how14; have c2:=hCw14.out.cell 2; have cf2:=hCw14.out.frozen 2; go_upto_region 25 with (fail)
       clear c2 cf2; have hs : Kp (· = g) w14 (w14.setCell ⟨g,2,none⟩ (.bool false)):=(Kp.refl (· = g) w14).set_ (g:=g) (fun _ => rfl) 2 (.bool false)
       have hCw15 : Blk (w14.setCell ⟨g,2,none⟩ (.bool false)) g 73 #[.bool resp,.bool closed,.bool false,.slice Am meth.length cm,.int .i64 (many : Int),.slice (some ⟨b0,ob + nT,none⟩) (buf.length - nT) (cap - nT),.int .i64 (kind : Int),.int .i64 (len : Int),.pointer (some ⟨gd,0,none⟩),.nilIface]:=(hCw14.out.set_ 2 (.bool false))
       have hkw15:=hkw14.out.next (fun k _ e => Or.inl e) hs; have hzw15:=Nat.le_trans hzw14.out hs.size; have hlw15:=hlw14.out.trans hs; have hDw15:=hDw14.out.kp (fun k hk e => by have:=(World.ownsRow.lt hDw14.out k hk).1; have:=hgB.out; omega) hs
       have hTw15:=hTw14.out.kp (fun k hk e => by have:=(World.ownsRow.lt hTw14.out k hk).1; have:=hgB.out; omega) hs
       have how15:=how14.out.kp (fun k hk e => by have:=(World.ownsRow.lt how14.out k hk).1; have:=hgB.out; omega) hs
       generalize (w14.setCell ⟨g,2,none⟩ (.bool false)) = w15 at *; clear hs; replace hCw15:=Hj hCw15; replace hkw15:=Hj hkw15; replace hzw15:=Hj hzw15; replace hDw15:=Hj hDw15; replace hTw15:=Hj hTw15; replace how15:=Hj how15; replace hlw15:=Hj hlw15; cases resp with
       | false =>
        have c0:=hCw15.out.cell 0; go_wp2; go_ret; have hes : Cn.evs D true s2.fields = [Cn.evEnd s2.fields]:=by unfold Cn.evs; rw [if_pos hD0.out]; rfl
        refine Cn.PartR.mk (c:=(Cn.C.mk false closed true meth many buf kind len dec 0)) (B:=w5.heap.size) (F':=fun k => F k ∨ Fd5 k) (D:=D) (dn:=true) (T:=s2.fields) (er:=0) (meth':=meth) (buf':=(buf.drop nT)) hL.out rfl hpD.out hpN.out (fun _ => hpT.out) hpE0.out hpB.out rfl (by rw [hes]; exact (Cn.EvsC.one (Cn.evC_end (L:=s2.fields) (Rd.own hTw15.out) (On.own hTw15.out)))) (by rw [hes]; exact how15.out) hBw.out hFB.out hzw15.out (.inl hF.out) hFF.out (kpF2.out _ hkw15.out) hCw15.out ?_
        intro _; obtain ⟨k1,⟨k2a,k2b,k2c,k2d⟩,k3⟩:=hcut.out.rd hbuf.out
        refine ⟨hmeth.out.kp hmoff.out hkw15.out,hL.out.methF.mono (fun k h => ⟨.inl h.1,h.2⟩),⟨_,_,k2d,fun e => (by cases e),fun _ => ⟨k2a,k2b,rfl⟩⟩,k1.kp ((k3 _ (show On (fun k => ¬ (k = g ∨ Fd k)) _ from hboff.out)).off fun k h => h) hkw15.out,(k3 _ hL.out.bufF).mono (fun k h => ⟨.inl h.1,h.2⟩),fun hd => ?_⟩
        cases hd
       | true =>
        obtain ⟨bm,om,hAm⟩ : ∃ b o,Am = some ⟨b,o,none⟩:=by
         obtain ⟨Ax,cx,ex,-,-,rx⟩:=id hmeth.out; cases ex
         obtain ⟨b,o,e,-⟩:=rx (List.length_pos_iff.2 (hone.out rfl))
         exact ⟨b,o,e⟩
        subst hAm; have gml : 0 < meth.length:=List.length_pos_iff.2 (hone.out rfl)
        by_cases hcm1 : cm = 1
        ·obtain rfl:=hcm1
         obtain ⟨m1,hm1⟩ : ∃ m,meth = [m]:=List.length_eq_one_iff.1 (by omega)
         subst hm1; have c0:=hCw15.out.cell 0; have c3:=hCw15.out.cell 3; have cf3:=hCw15.out.frozen 3; go_upto_region 27 with (fail)
         clear c0 c3 cf3; have hs : Kp (· = g) w15 (w15.setCell ⟨g,3,none⟩ (.slice (some ⟨bm,om,none⟩) 0 0)):=(Kp.refl (· = g) w15).set_ (g:=g) (fun _ => rfl) 3 (.slice (some ⟨bm,om,none⟩) 0 0)
         have hCw16 : Blk (w15.setCell ⟨g,3,none⟩ (.slice (some ⟨bm,om,none⟩) 0 0)) g 73 #[.bool true,.bool closed,.bool false,.slice (some ⟨bm,om,none⟩) 0 0,.int .i64 (many : Int),.slice (some ⟨b0,ob + nT,none⟩) (buf.length - nT) (cap - nT),.int .i64 (kind : Int),.int .i64 (len : Int),.pointer (some ⟨gd,0,none⟩),.nilIface]:=(hCw15.out.set_ 3 (.slice (some ⟨bm,om,none⟩) 0 0))
         have hkw16:=hkw15.out.next (fun k _ e => Or.inl e) hs; have hzw16:=Nat.le_trans hzw15.out hs.size; have hlw16:=hlw15.out.trans hs; have hDw16:=hDw15.out.kp (fun k hk e => by have:=(World.ownsRow.lt hDw15.out k hk).1; have:=hgB.out; omega) hs
         have hTw16:=hTw15.out.kp (fun k hk e => by have:=(World.ownsRow.lt hTw15.out k hk).1; have:=hgB.out; omega) hs
         have how16:=how15.out.kp (fun k hk e => by have:=(World.ownsRow.lt how15.out k hk).1; have:=hgB.out; omega) hs
         generalize (w15.setCell ⟨g,3,none⟩ (.slice (some ⟨bm,om,none⟩) 0 0)) = w16 at *; clear hs; replace hCw16:=Hj hCw16; replace hkw16:=Hj hkw16; replace hzw16:=Hj hzw16; replace hDw16:=Hj hDw16; replace hTw16:=Hj hTw16; replace how16:=Hj how16; replace hlw16:=Hj hlw16; obtain ⟨bx,ox,ex,t1,t2,t3⟩:=Cn.meth_tail (G:=fun k => k = g ∨ Fd k) (F':=fun k => F k ∨ Fd5 k) hmeth.out (by simp) hkw16.out hL.out.methF hmoff.out (fun k h => .inl h)
         cases ex
         have hmt:=Hj (t1 rfl); have hmO:=Hj (t3 (.slice (some ⟨bm,om,none⟩) 0 0) rfl); clear t1 t2 t3; go_wp2; go_ret; have hes : Cn.evs D true s2.fields = [Cn.evEnd s2.fields]:=by unfold Cn.evs; rw [if_pos hD0.out]; rfl
         refine Cn.PartR.mk (c:=(Cn.C.mk true closed true [m1] many buf kind len dec 0)) (B:=w5.heap.size) (F':=fun k => F k ∨ Fd5 k) (D:=D) (dn:=true) (T:=s2.fields) (er:=0) (meth':=([] : List (List UInt8))) (buf':=(buf.drop nT)) hL.out rfl hpD.out hpN.out (fun _ => hpT.out) hpE0.out hpB.out rfl (by rw [hes]; exact (Cn.EvsC.one (Cn.evC_end (L:=s2.fields) (Rd.own hTw16.out) (On.own hTw16.out)))) (by rw [hes]; exact how16.out) hBw.out hFB.out hzw16.out (.inl hF.out) hFF.out (kpF2.out _ hkw16.out) hCw16.out ?_
         intro _; obtain ⟨k1,⟨k2a,k2b,k2c,k2d⟩,k3⟩:=hcut.out.rd hbuf.out
         refine ⟨hmt.out,hmO.out,⟨_,_,k2d,fun e => (by cases e),fun _ => ⟨k2a,k2b,rfl⟩⟩,k1.kp ((k3 _ (show On (fun k => ¬ (k = g ∨ Fd k)) _ from hboff.out)).off fun k h => h) hkw16.out,(k3 _ hL.out.bufF).mono (fun k h => ⟨.inl h.1,h.2⟩),fun hd => ?_⟩
         cases hd
        ·obtain ⟨cm2,rfl⟩ : ∃ c,cm = c + 2:=⟨cm - 2,by omega⟩
         obtain ⟨m1,mr,hm1⟩ : ∃ m r,meth = m :: r:=by
          cases hx : meth with
          | nil => rw [hx] at gml; cases gml
          | cons m r => exact ⟨m,r,rfl⟩
         subst hm1; have c0:=hCw15.out.cell 0; have c3:=hCw15.out.cell 3; have cf3:=hCw15.out.frozen 3; go_upto_region 27 with (fail)
         clear c0 c3 cf3; have hs : Kp (· = g) w15 (w15.setCell ⟨g,3,none⟩ (.slice (some ⟨bm,om + 1,none⟩) mr.length (cm2 + 1))):=(Kp.refl (· = g) w15).set_ (g:=g) (fun _ => rfl) 3 (.slice (some ⟨bm,om + 1,none⟩) mr.length (cm2 + 1))
         have hCw16 : Blk (w15.setCell ⟨g,3,none⟩ (.slice (some ⟨bm,om + 1,none⟩) mr.length (cm2 + 1))) g 73 #[.bool true,.bool closed,.bool false,.slice (some ⟨bm,om + 1,none⟩) mr.length (cm2 + 1),.int .i64 (many : Int),.slice (some ⟨b0,ob + nT,none⟩) (buf.length - nT) (cap - nT),.int .i64 (kind : Int),.int .i64 (len : Int),.pointer (some ⟨gd,0,none⟩),.nilIface]:=(hCw15.out.set_ 3 (.slice (some ⟨bm,om + 1,none⟩) mr.length (cm2 + 1)))
         have hkw16:=hkw15.out.next (fun k _ e => Or.inl e) hs; have hzw16:=Nat.le_trans hzw15.out hs.size; have hlw16:=hlw15.out.trans hs; have hDw16:=hDw15.out.kp (fun k hk e => by have:=(World.ownsRow.lt hDw15.out k hk).1; have:=hgB.out; omega) hs
         have hTw16:=hTw15.out.kp (fun k hk e => by have:=(World.ownsRow.lt hTw15.out k hk).1; have:=hgB.out; omega) hs
         have how16:=how15.out.kp (fun k hk e => by have:=(World.ownsRow.lt how15.out k hk).1; have:=hgB.out; omega) hs
         generalize (w15.setCell ⟨g,3,none⟩ (.slice (some ⟨bm,om + 1,none⟩) mr.length (cm2 + 1))) = w16 at *; clear hs; replace hCw16:=Hj hCw16; replace hkw16:=Hj hkw16; replace hzw16:=Hj hzw16; replace hDw16:=Hj hDw16; replace hTw16:=Hj hTw16; replace how16:=Hj how16; replace hlw16:=Hj hlw16; obtain ⟨bx,ox,ex,t1,t2,t3⟩:=Cn.meth_tail (G:=fun k => k = g ∨ Fd k) (F':=fun k => F k ∨ Fd5 k) hmeth.out (by simp) hkw16.out hL.out.methF hmoff.out (fun k h => .inl h)
         cases ex
         have hmt:=Hj (t2 (by omega)); have hmO:=Hj (t3 (.slice (some ⟨bm,om + 1,none⟩) mr.length (cm2 + 1)) rfl); clear t1 t2 t3; go_wp2; go_ret; have hes : Cn.evs D true s2.fields = [Cn.evEnd s2.fields]:=by unfold Cn.evs; rw [if_pos hD0.out]; rfl
         refine Cn.PartR.mk (c:=(Cn.C.mk true closed true (m1 :: mr) many buf kind len dec 0)) (B:=w5.heap.size) (F':=fun k => F k ∨ Fd5 k) (D:=D) (dn:=true) (T:=s2.fields) (er:=0) (meth':=mr) (buf':=(buf.drop nT)) hL.out rfl hpD.out hpN.out (fun _ => hpT.out) hpE0.out hpB.out rfl (by rw [hes]; exact (Cn.EvsC.one (Cn.evC_end (L:=s2.fields) (Rd.own hTw16.out) (On.own hTw16.out)))) (by rw [hes]; exact how16.out) hBw.out hFB.out hzw16.out (.inl hF.out) hFF.out (kpF2.out _ hkw16.out) hCw16.out ?_
         intro _; obtain ⟨k1,⟨k2a,k2b,k2c,k2d⟩,k3⟩:=hcut.out.rd hbuf.out
         refine ⟨hmt.out,hmO.out,⟨_,_,k2d,fun e => (by cases e),fun _ => ⟨k2a,k2b,rfl⟩⟩,k1.kp ((k3 _ (show On (fun k => ¬ (k = g ∨ Fd k)) _ from hboff.out)).off fun k h => h) hkw16.out,(k3 _ hL.out.bufF).mono (fun k h => ⟨.inl h.1,h.2⟩),fun hd => ?_⟩
         cases hd
      ·have gD : (0 : Int) < (D.length : Int):=by have:=List.length_pos_iff.2 hD0; skip; omega
       replace hD0:=Hj hD0; go_upto_region 21 with (fail)
       go_upto_region 22 with (at_builtin; go_loud (refine push_ev (v:=Value.slice none 0 0) (n:=0) (xs:=[]) (B:=w5.heap.size) _ _ rfl rfl rfl (own_nil w13 (w5.heap.size) 77 8) rfl (by intro u hu; simp only [List.mem_cons,List.mem_nil_iff,or_false] at hu; rcases hu with rfl | rfl | rfl | rfl | rfl | rfl | rfl | rfl <;> rfl) (by omega) hzw13.out ?_); intro vo0 w14 how14 hgx hat; have hCw14:=Hj (Blk.grown8 (hCw13.out.alloc (.cells #[.int .i64 2,.string ⟨#[]⟩,.string ⟨#[]⟩,.slice none 0 0,.int .i64 0,.slice none 0 0,.slice AD D.length cD,.slice none 0 0] 77)) hgx (fun e => by cases e)); have hkw14:=Hj ((hkw13.out.alloc (.cells #[.int .i64 2,.string ⟨#[]⟩,.string ⟨#[]⟩,.slice none 0 0,.int .i64 0,.slice none 0 0,.slice AD D.length cD,.slice none 0 0] 77)).grown hgx (fun k e => by cases e)); have hzw14:=Hj (Nat.le_trans (Nat.le_trans hzw13.out (by rw [alloc_size']; omega)) hgx.size); have hlw14:=Hj ((hlw13.out.alloc (.cells #[.int .i64 2,.string ⟨#[]⟩,.string ⟨#[]⟩,.slice none 0 0,.int .i64 0,.slice none 0 0,.slice AD D.length cD,.slice none 0 0] 77)).grown hgx (fun k e => by cases e)); have hDw14:=Hj (own_kpg ((hDw13.out).alloc (.cells #[.int .i64 2,.string ⟨#[]⟩,.string ⟨#[]⟩,.slice none 0 0,.int .i64 0,.slice none 0 0,.slice AD D.length cD,.slice none 0 0] 77)) hgx (fun k _ e => by cases e)); have hTw14:=Hj (own_kpg ((hTw13.out).alloc (.cells #[.int .i64 2,.string ⟨#[]⟩,.string ⟨#[]⟩,.slice none 0 0,.int .i64 0,.slice none 0 0,.slice AD D.length cD,.slice none 0 0] 77)) hgx (fun k _ e => by cases e)); clear hgx hat)
       obtain ⟨Ao0,co0,rfl,-,-,-⟩:=id (Rd.own how14)
       replace how14:=Hj how14
       go_upto_region 24 with (at_builtin; go_loud (refine push_ev (v:=(.slice Ao0 1 co0)) (n:=1) (xs:=[.int .i64 2,.string ⟨#[]⟩,.string ⟨#[]⟩,.slice none 0 0,.int .i64 0,.slice none 0 0,.slice AD D.length cD,.slice none 0 0]) (B:=w5.heap.size) _ _ rfl rfl rfl how14.out rfl (by intro u hu; simp only [List.mem_cons,List.mem_nil_iff,or_false] at hu; rcases hu with rfl | rfl | rfl | rfl | rfl | rfl | rfl | rfl <;> rfl) (by omega) hzw14.out ?_); intro vo1 w15 how15 hgx hat; have hCw15:=Hj (Blk.grown8 (hCw14.out.alloc (.cells #[.int .i64 3,.string ⟨#[]⟩,.string ⟨#[]⟩,.slice none 0 0,.int .i64 0,.slice none 0 0,.slice none 0 0,.slice AT s2.fields.length cT] 77)) hgx (fun e => by have:=(World.ownsRow.lt how14.out g e).1; have:=hgB.out; omega)); have hkw15:=Hj ((hkw14.out.alloc (.cells #[.int .i64 3,.string ⟨#[]⟩,.string ⟨#[]⟩,.slice none 0 0,.int .i64 0,.slice none 0 0,.slice none 0 0,.slice AT s2.fields.length cT] 77)).grown hgx (fun k e hlt => by have:=(World.ownsRow.lt how14.out k e).1; have:=hBw.out; omega)); have hzw15:=Hj (Nat.le_trans (Nat.le_trans hzw14.out (by rw [alloc_size']; omega)) hgx.size); have hlw15:=Hj ((hlw14.out.alloc (.cells #[.int .i64 3,.string ⟨#[]⟩,.string ⟨#[]⟩,.slice none 0 0,.int .i64 0,.slice none 0 0,.slice none 0 0,.slice AT s2.fields.length cT] 77)).grown hgx (fun k e hlt => by have:=(World.ownsRow.lt how14.out k e).1; omega)); have hDw15:=Hj (own_kpg ((hDw14.out).alloc (.cells #[.int .i64 3,.string ⟨#[]⟩,.string ⟨#[]⟩,.slice none 0 0,.int .i64 0,.slice none 0 0,.slice none 0 0,.slice AT s2.fields.length cT] 77)) hgx (fun k hk e => (hDw14.out.apart how14.out (by decide) hk) e)); have hTw15:=Hj (own_kpg ((hTw14.out).alloc (.cells #[.int .i64 3,.string ⟨#[]⟩,.string ⟨#[]⟩,.slice none 0 0,.int .i64 0,.slice none 0 0,.slice none 0 0,.slice AT s2.fields.length cT] 77)) hgx (fun k hk e => (hTw14.out.apart how14.out (by decide) hk) e)); clear hgx hat)
       obtain ⟨Ao1,co1,rfl,-,-,-⟩:=id (Rd.own how15)
       replace how15:=Hj how15; have c2:=hCw15.out.cell 2; have cf2:=hCw15.out.frozen 2; go_upto_region 25 with (fail)
       clear c2 cf2; have hs : Kp (· = g) w15 (w15.setCell ⟨g,2,none⟩ (.bool false)):=(Kp.refl (· = g) w15).set_ (g:=g) (fun _ => rfl) 2 (.bool false)
       have hCw16 : Blk (w15.setCell ⟨g,2,none⟩ (.bool false)) g 73 #[.bool resp,.bool closed,.bool false,.slice Am meth.length cm,.int .i64 (many : Int),.slice (some ⟨b0,ob + nT,none⟩) (buf.length - nT) (cap - nT),.int .i64 (kind : Int),.int .i64 (len : Int),.pointer (some ⟨gd,0,none⟩),.nilIface]:=(hCw15.out.set_ 2 (.bool false))
       have hkw16:=hkw15.out.next (fun k _ e => Or.inl e) hs; have hzw16:=Nat.le_trans hzw15.out hs.size; have hlw16:=hlw15.out.trans hs; have hDw16:=hDw15.out.kp (fun k hk e => by have:=(World.ownsRow.lt hDw15.out k hk).1; have:=hgB.out; omega) hs
       have hTw16:=hTw15.out.kp (fun k hk e => by have:=(World.ownsRow.lt hTw15.out k hk).1; have:=hgB.out; omega) hs
       have how16:=how15.out.kp (fun k hk e => by have:=(World.ownsRow.lt how15.out k hk).1; have:=hgB.out; omega) hs
       generalize (w15.setCell ⟨g,2,none⟩ (.bool false)) = w16 at *; clear hs; replace hCw16:=Hj hCw16; replace hkw16:=Hj hkw16; replace hzw16:=Hj hzw16; replace hDw16:=Hj hDw16; replace hTw16:=Hj hTw16; replace how16:=Hj how16; replace hlw16:=Hj hlw16; cases resp with
       | false =>
        have c0:=hCw16.out.cell 0; go_wp2; go_ret; have hes : Cn.evs D true s2.fields = [Cn.evData D] ++ [Cn.evEnd s2.fields]:=by unfold Cn.evs; rw [if_neg hD0.out]; rfl
        refine Cn.PartR.mk (c:=(Cn.C.mk false closed true meth many buf kind len dec 0)) (B:=w5.heap.size) (F':=fun k => F k ∨ Fd5 k) (D:=D) (dn:=true) (T:=s2.fields) (er:=0) (meth':=meth) (buf':=(buf.drop nT)) hL.out rfl hpD.out hpN.out (fun _ => hpT.out) hpE0.out hpB.out rfl (by rw [hes]; exact ((Cn.EvsC.one (Cn.evC_data (Rd.own hDw16.out) (On.own hDw16.out))).app (Cn.EvsC.one (Cn.evC_end (L:=s2.fields) (Rd.own hTw16.out) (On.own hTw16.out))))) (by rw [hes]; exact how16.out) hBw.out hFB.out hzw16.out (.inl hF.out) hFF.out (kpF2.out _ hkw16.out) hCw16.out ?_
        intro _; obtain ⟨k1,⟨k2a,k2b,k2c,k2d⟩,k3⟩:=hcut.out.rd hbuf.out
        refine ⟨hmeth.out.kp hmoff.out hkw16.out,hL.out.methF.mono (fun k h => ⟨.inl h.1,h.2⟩),⟨_,_,k2d,fun e => (by cases e),fun _ => ⟨k2a,k2b,rfl⟩⟩,k1.kp ((k3 _ (show On (fun k => ¬ (k = g ∨ Fd k)) _ from hboff.out)).off fun k h => h) hkw16.out,(k3 _ hL.out.bufF).mono (fun k h => ⟨.inl h.1,h.2⟩),fun hd => ?_⟩
        cases hd
       | true =>
        obtain ⟨bm,om,hAm⟩ : ∃ b o,Am = some ⟨b,o,none⟩:=by
         obtain ⟨Ax,cx,ex,-,-,rx⟩:=id hmeth.out; cases ex
         obtain ⟨b,o,e,-⟩:=rx (List.length_pos_iff.2 (hone.out rfl))
         exact ⟨b,o,e⟩
        subst hAm; have gml : 0 < meth.length:=List.length_pos_iff.2 (hone.out rfl)
        by_cases hcm1 : cm = 1
        ·obtain rfl:=hcm1
         obtain ⟨m1,hm1⟩ : ∃ m,meth = [m]:=List.length_eq_one_iff.1 (by omega)
         subst hm1; have c0:=hCw16.out.cell 0; have c3:=hCw16.out.cell 3; have cf3:=hCw16.out.frozen 3; go_upto_region 27 with (fail)
         clear c0 c3 cf3; have hs : Kp (· = g) w16 (w16.setCell ⟨g,3,none⟩ (.slice (some ⟨bm,om,none⟩) 0 0)):=(Kp.refl (· = g) w16).set_ (g:=g) (fun _ => rfl) 3 (.slice (some ⟨bm,om,none⟩) 0 0)
         have hCw17 : Blk (w16.setCell ⟨g,3,none⟩ (.slice (some ⟨bm,om,none⟩) 0 0)) g 73 #[.bool true,.bool closed,.bool false,.slice (some ⟨bm,om,none⟩) 0 0,.int .i64 (many : Int),.slice (some ⟨b0,ob + nT,none⟩) (buf.length - nT) (cap - nT),.int .i64 (kind : Int),.int .i64 (len : Int),.pointer (some ⟨gd,0,none⟩),.nilIface]:=(hCw16.out.set_ 3 (.slice (some ⟨bm,om,none⟩) 0 0))
         have hkw17:=hkw16.out.next (fun k _ e => Or.inl e) hs; have hzw17:=Nat.le_trans hzw16.out hs.size; have hlw17:=hlw16.out.trans hs; have hDw17:=hDw16.out.kp (fun k hk e => by have:=(World.ownsRow.lt hDw16.out k hk).1; have:=hgB.out; omega) hs
         have hTw17:=hTw16.out.kp (fun k hk e => by have:=(World.ownsRow.lt hTw16.out k hk).1; have:=hgB.out; omega) hs
         have how17:=how16.out.kp (fun k hk e => by have:=(World.ownsRow.lt how16.out k hk).1; have:=hgB.out; omega) hs
         generalize (w16.setCell ⟨g,3,none⟩ (.slice (some ⟨bm,om,none⟩) 0 0)) = w17 at *; clear hs; replace hCw17:=Hj hCw17; replace hkw17:=Hj hkw17; replace hzw17:=Hj hzw17; replace hDw17:=Hj hDw17; replace hTw17:=Hj hTw17; replace how17:=Hj how17; replace hlw17:=Hj hlw17; obtain ⟨bx,ox,ex,t1,t2,t3⟩:=Cn.meth_tail (G:=fun k => k = g ∨ Fd k) (F':=fun k => F k ∨ Fd5 k) hmeth.out (by simp) hkw17.out hL.out.methF hmoff.out (fun k h => .inl h)
         cases ex
         have hmt:=Hj (t1 rfl); have hmO:=Hj (t3 (.slice (some ⟨bm,om,none⟩) 0 0) rfl); clear t1 t2 t3; go_wp2; go_ret; have hes : Cn.evs D true s2.fields = [Cn.evData D] ++ [Cn.evEnd s2.fields]:=by unfold Cn.evs; rw [if_neg hD0.out]; rfl
         refine Cn.PartR.mk (c:=(Cn.C.mk true closed true [m1] many buf kind len dec 0)) (B:=w5.heap.size) (F':=fun k => F k ∨ Fd5 k) (D:=D) (dn:=true) (T:=s2.fields) (er:=0) (meth':=([] : List (List UInt8))) (buf':=(buf.drop nT)) hL.out rfl hpD.out hpN.out (fun _ => hpT.out) hpE0.out hpB.out rfl (by rw [hes]; exact ((Cn.EvsC.one (Cn.evC_data (Rd.own hDw17.out) (On.own hDw17.out))).app (Cn.EvsC.one (Cn.evC_end (L:=s2.fields) (Rd.own hTw17.out) (On.own hTw17.out))))) (by rw [hes]; exact how17.out) hBw.out hFB.out hzw17.out (.inl hF.out) hFF.out (kpF2.out _ hkw17.out) hCw17.out ?_
         intro _; obtain ⟨k1,⟨k2a,k2b,k2c,k2d⟩,k3⟩:=hcut.out.rd hbuf.out
         refine ⟨hmt.out,hmO.out,⟨_,_,k2d,fun e => (by cases e),fun _ => ⟨k2a,k2b,rfl⟩⟩,k1.kp ((k3 _ (show On (fun k => ¬ (k = g ∨ Fd k)) _ from hboff.out)).off fun k h => h) hkw17.out,(k3 _ hL.out.bufF).mono (fun k h => ⟨.inl h.1,h.2⟩),fun hd => ?_⟩
         cases hd
        ·obtain ⟨cm2,rfl⟩ : ∃ c,cm = c + 2:=⟨cm - 2,by omega⟩
         obtain ⟨m1,mr,hm1⟩ : ∃ m r,meth = m :: r:=by
          cases hx : meth with
          | nil => rw [hx] at gml; cases gml
          | cons m r => exact ⟨m,r,rfl⟩
         subst hm1; have c0:=hCw16.out.cell 0; have c3:=hCw16.out.cell 3; have cf3:=hCw16.out.frozen 3; go_upto_region 27 with (fail)
         clear c0 c3 cf3; have hs : Kp (· = g) w16 (w16.setCell ⟨g,3,none⟩ (.slice (some ⟨bm,om + 1,none⟩) mr.length (cm2 + 1))):=(Kp.refl (· = g) w16).set_ (g:=g) (fun _ => rfl) 3 (.slice (some ⟨bm,om + 1,none⟩) mr.length (cm2 + 1))
         have hCw17 : Blk (w16.setCell ⟨g,3,none⟩ (.slice (some ⟨bm,om + 1,none⟩) mr.length (cm2 + 1))) g 73 #[.bool true,.bool closed,.bool false,.slice (some ⟨bm,om + 1,none⟩) mr.length (cm2 + 1),.int .i64 (many : Int),.slice (some ⟨b0,ob + nT,none⟩) (buf.length - nT) (cap - nT),.int .i64 (kind : Int),.int .i64 (len : Int),.pointer (some ⟨gd,0,none⟩),.nilIface]:=(hCw16.out.set_ 3 (.slice (some ⟨bm,om + 1,none⟩) mr.length (cm2 + 1)))
         have hkw17:=hkw16.out.next (fun k _ e => Or.inl e) hs; have hzw17:=Nat.le_trans hzw16.out hs.size; have hlw17:=hlw16.out.trans hs; have hDw17:=hDw16.out.kp (fun k hk e => by have:=(World.ownsRow.lt hDw16.out k hk).1; have:=hgB.out; omega) hs
         have hTw17:=hTw16.out.kp (fun k hk e => by have:=(World.ownsRow.lt hTw16.out k hk).1; have:=hgB.out; omega) hs
         have how17:=how16.out.kp (fun k hk e => by have:=(World.ownsRow.lt how16.out k hk).1; have:=hgB.out; omega) hs
         generalize (w16.setCell ⟨g,3,none⟩ (.slice (some ⟨bm,om + 1,none⟩) mr.length (cm2 + 1))) = w17 at *; clear hs; replace hCw17:=Hj hCw17; replace hkw17:=Hj hkw17; replace hzw17:=Hj hzw17; replace hDw17:=Hj hDw17; replace hTw17:=Hj hTw17; replace how17:=Hj how17; replace hlw17:=Hj hlw17; obtain ⟨bx,ox,ex,t1,t2,t3⟩:=Cn.meth_tail (G:=fun k => k = g ∨ Fd k) (F':=fun k => F k ∨ Fd5 k) hmeth.out (by simp) hkw17.out hL.out.methF hmoff.out (fun k h => .inl h)
         cases ex
         have hmt:=Hj (t2 (by omega)); have hmO:=Hj (t3 (.slice (some ⟨bm,om + 1,none⟩) mr.length (cm2 + 1)) rfl); clear t1 t2 t3; go_wp2; go_ret; have hes : Cn.evs D true s2.fields = [Cn.evData D] ++ [Cn.evEnd s2.fields]:=by unfold Cn.evs; rw [if_neg hD0.out]; rfl
         refine Cn.PartR.mk (c:=(Cn.C.mk true closed true (m1 :: mr) many buf kind len dec 0)) (B:=w5.heap.size) (F':=fun k => F k ∨ Fd5 k) (D:=D) (dn:=true) (T:=s2.fields) (er:=0) (meth':=mr) (buf':=(buf.drop nT)) hL.out rfl hpD.out hpN.out (fun _ => hpT.out) hpE0.out hpB.out rfl (by rw [hes]; exact ((Cn.EvsC.one (Cn.evC_data (Rd.own hDw17.out) (On.own hDw17.out))).app (Cn.EvsC.one (Cn.evC_end (L:=s2.fields) (Rd.own hTw17.out) (On.own hTw17.out))))) (by rw [hes]; exact how17.out) hBw.out hFB.out hzw17.out (.inl hF.out) hFF.out (kpF2.out _ hkw17.out) hCw17.out ?_
         intro _; obtain ⟨k1,⟨k2a,k2b,k2c,k2d⟩,k3⟩:=hcut.out.rd hbuf.out
         refine ⟨hmt.out,hmO.out,⟨_,_,k2d,fun e => (by cases e),fun _ => ⟨k2a,k2b,rfl⟩⟩,k1.kp ((k3 _ (show On (fun k => ¬ (k = g ∨ Fd k)) _ from hboff.out)).off fun k h => h) hkw17.out,(k3 _ hL.out.bufF).mono (fun k h => ⟨.inl h.1,h.2⟩),fun hd => ?_⟩
         cases hd
    ·have hpN : Cn.pDone (Cn.C.mk resp closed true meth many buf kind len dec 0) = false:=by rw [hpN0]; exact decide_eq_false (fun h => h8 h.2)
     simp only [show errV ((0 : Nat) : Int) = .nilIface from rfl] at hWr
     replace hWr:=Hj hWr; clear hpN0; replace hpN:=Hj hpN; replace hb0:=Hj hb0; replace hpE0:=Hj hpE0; replace h8:=Hj h8; have c6:=hCw.out.cell 6; go_enter Tryz.func31,Tryz.ntmps31
     go_upto_region 14 with (fail)
     clear c6; go_region_held3 (fun w' => w'.cell? ⟨g,8,none⟩ = some (.pointer (some ⟨gd,0,none⟩)) ∧ w'.cell? ⟨g,5,none⟩ = some (.slice (some ⟨b0,ob,none⟩) buf.length cap))
      (first | exact hS.out _ (by first | with_reducible exact Kp.refl _ _ | with_reducible exact (Kp.refl _ _).drew | with_reducible assumption | with_reducible exact Kp.drew (by with_reducible assumption)))
      (first | (go_at_call 57; refine (hWr.out _ (by first | with_reducible exact Kp.refl _ _ | with_reducible exact (Kp.refl _ _).drew)).mono ?_; rintro e w5 ⟨vb5,Fd5,rfl,hv5,hoff5,hD5,hFd5,hkx⟩; (first | have hk5 : Kp Fd w w5:=hkx | have hk5 : Kp Fd w w5:=((Kp.refl Fd w).drew).trans hkx)))
     have hgBw:=hgB.out; have hBw5 : w.heap.size ≤ w5.heap.size:=hk5.size
     have hCw5:=Hj (hCF.out w5 hk5); have hkw5:=Hj (hk5.mono (F:=fun k => k = g ∨ Fd k) (fun k _ h => Or.inr h)); have hzw5 : Hid (w5.heap.size ≤ w5.heap.size):=Hj (Nat.le_refl _)
     have hlw5:=Hj (Kp.refl (· = g) w5); have hgB : Hid (g < w5.heap.size):=Hj (by omega)
     have hBw : Hid (w.heap.size ≤ w5.heap.size):=Hj hBw5
     have hFB : ∀ k,(F k ∨ Fd5 k) → k < w5.heap.size:=fun k h => h.elim (fun h => by have:=hlt.out k h; omega) (hD5.2.1 k)
     have hFF : ∀ k,(F k ∨ Fd5 k) → F k ∨ w.heap.size ≤ k:=fun k h => h.elim Or.inl (fun h => (hFd5 k h).imp (hsub.out k) id)
     have hng5 : ¬ Fd5 g:=fun h => (hFd5 g h).elim hng.out (fun h => by have : w.heap.size ≤ g:=h; omega)
     have hom5 : Off Fd5 (.slice Am meth.length cm):=fun k hk h => (hFd5 k h).elim (hom.out k hk) (fun h => by have:=hlt.out k (hL.out.methF k hk).1; have : w.heap.size ≤ k:=h; omega)
     have hob5 : Off Fd5 (.slice (some ⟨b0,ob,none⟩) buf.length cap):=fun k hk h => (hFd5 k h).elim (hob.out k hk) (fun h => by have:=hlt.out k (hL.out.bufF k hk).1; have : w.heap.size ≤ k:=h; omega)
     have hr5:=Hj (Rd.own hv5); obtain ⟨A5,c5v,rfl,-,-,-⟩:=id hr5.out; clear hkx hk5 hWr hS hCF hv5 hoff5; replace hFB:=Hj hFB; replace hFF:=Hj hFF; replace hng5:=Hj hng5; replace hom5:=Hj hom5; replace hob5:=Hj hob5; replace hD5:=Hj hD5; replace hFd5:=Hj hFd5; clear hgBw hBw5; have h1c : ∀ u ∈ u8s D,u.oneCell' = true:=fun u hu => by obtain ⟨x,-,rfl⟩:=List.mem_map.1 hu; rfl
     replace h1c:=Hj h1c; go_upto_region 16 with (at_builtin; go_loud (refine step_pushR (v:=Value.slice none 0 0) (n:=0) (m:=D.length) (xs:=[]) (news:=u8s D) (c:=c5v) (A:=A5) (B:=w5.heap.size) 23 5 (.int .u8 0) 1 1 _ _ rfl rfl Tryz.underlying23 infoU8 rfl (by decide) (by decide) rfl (own_nil _ _ _ _) rfl hr5.out h1c.out (by omega) hzw5.out ?_); intro vD w11 hDw11 hgx hat; rw [Nat.zero_add,List.nil_append] at hDw11; have hCw11:=Hj (Blk.grown8 hCw5.out hgx (fun e => by cases e)); have hkw11:=Hj (hkw5.out.grown hgx (fun k e => by cases e)); have hzw11:=Hj (Nat.le_trans hzw5.out hgx.size); have hlw11:=Hj (hlw5.out.grown hgx (fun k e => by cases e)); clear hgx hat)
     obtain ⟨AD,cD,rfl,-,-,-⟩:=id (Rd.own hDw11)
     replace hDw11:=Hj hDw11; clear h1c; have g7 : (nT : Int) ≤ (cap : Int):=by omega
     have g8 : nT ≤ cap:=by omega
     by_cases hcp : nT = cap
     ·subst hcp
      have hcut : Hid (Cn.CutB (some ⟨b0,ob,none⟩) buf.length nT nT (.slice (some ⟨b0,ob,none⟩) 0 0)):=⟨b0,ob,rfl,hNl,hcap,.inr ⟨rfl,rfl⟩⟩
      have c5:=hCw11.out.cell 5; have c9:=hCw11.out.cell 9; have cf5:=hCw11.out.frozen 5; have cf9:=hCw11.out.frozen 9; go_upto_region 17 with (fail)
      clear c5 c9 cf5 cf9; have hs : Kp (· = g) w11 ((w11.setCell ⟨g,5,none⟩ (.slice (some ⟨b0,ob,none⟩) 0 0)).setCell ⟨g,9,none⟩ (.nilIface)):=((Kp.refl (· = g) w11).set_ (g:=g) (fun _ => rfl) 5 (.slice (some ⟨b0,ob,none⟩) 0 0)).set_ (g:=g) (fun _ => rfl) 9 (.nilIface)
      have hCw12 : Blk ((w11.setCell ⟨g,5,none⟩ (.slice (some ⟨b0,ob,none⟩) 0 0)).setCell ⟨g,9,none⟩ (.nilIface)) g 73 #[.bool resp,.bool closed,.bool true,.slice Am meth.length cm,.int .i64 (many : Int),.slice (some ⟨b0,ob,none⟩) 0 0,.int .i64 (kind : Int),.int .i64 (len : Int),.pointer (some ⟨gd,0,none⟩),.nilIface]:=((hCw11.out.set_ 5 (.slice (some ⟨b0,ob,none⟩) 0 0)).set_ 9 (.nilIface))
      have hkw12:=hkw11.out.next (fun k _ e => Or.inl e) hs; have hzw12:=Nat.le_trans hzw11.out hs.size; have hlw12:=hlw11.out.trans hs; have hDw12:=hDw11.out.kp (fun k hk e => by have:=(World.ownsRow.lt hDw11.out k hk).1; have:=hgB.out; omega) hs
      generalize ((w11.setCell ⟨g,5,none⟩ (.slice (some ⟨b0,ob,none⟩) 0 0)).setCell ⟨g,9,none⟩ (.nilIface)) = w12 at *; clear hs; replace hCw12:=Hj hCw12; replace hkw12:=Hj hkw12; replace hzw12:=Hj hzw12; replace hDw12:=Hj hDw12; replace hlw12:=Hj hlw12; have hD6:=Hj (hD5.out.kp hlw12.out (fun k h e => hng5.out (e ▸ h))); have c8:=hCw12.out.cell 8; go_wp2_with fail
      refine (cdone_any hD6.out).mono ?_
      rintro e wx ⟨rfl,hwx⟩
      subst wx; rw [show decide (s2.place = 8) = false from decide_eq_false h8.out]
      go_upto_region 20 with (fail)
      clear c8; by_cases hD0 : D = []
      ·have gD : ¬ (0 : Int) < (D.length : Int):=by rw [show D.length = 0 from by rw [hD0]; rfl]; decide
       have gD2 : D.length = 0:=by omega
       replace gD2:=Hj gD2; replace hD0:=Hj hD0; skip
       go_wp2; go_ret; have hes : Cn.evs D false [] = []:=by unfold Cn.evs; rw [if_pos hD0.out]; rfl
       refine Cn.PartR.mk (c:=(Cn.C.mk resp closed true meth many buf kind len dec 0)) (B:=w5.heap.size) (F':=fun k => F k ∨ Fd5 k) (D:=D) (dn:=false) (T:=[]) (er:=0) (meth':=meth) (buf':=(buf.drop nT)) hL.out rfl hpD.out hpN.out (fun h => by cases h) hpE0.out hpB.out rfl (by rw [hes]; exact Cn.EvsC.nil) (by rw [hes]; exact (own_nil w12 (w5.heap.size) 77 8)) hBw.out hFB.out hzw12.out (.inl hF.out) hFF.out (kpF2.out _ hkw12.out) hCw12.out ?_
       intro _; obtain ⟨k1,⟨k2a,k2b,k2c,k2d⟩,k3⟩:=hcut.out.rd hbuf.out
       refine ⟨hmeth.out.kp hmoff.out hkw12.out,hL.out.methF.mono (fun k h => ⟨.inl h.1,h.2⟩),⟨_,_,k2d,fun e => (by cases e),fun _ => ⟨k2a,k2b,rfl⟩⟩,k1.kp ((k3 _ (show On (fun k => ¬ (k = g ∨ Fd k)) _ from hboff.out)).off fun k h => h) hkw12.out,(k3 _ hL.out.bufF).mono (fun k h => ⟨.inl h.1,h.2⟩),fun hd => ?_⟩
       refine ⟨by rw [hpL.out],fun _ => ⟨gd,Fd5,rfl,?_,fun k h => .inr h,hng5.out,hom5.out,(k3 _ (show On (fun k => ¬ Fd5 k) _ from hob5.out)).off fun k h => h⟩⟩
       have hx:=hD5.out.kp hlw12.out (fun k h e => hng5.out (e ▸ h)); show Decv _ gd Fd5 (Cn.pDec (Cn.C.mk resp closed true meth many buf kind len dec 0)) (errV (((Cn.pDec (Cn.C.mk resp closed true meth many buf kind len dec 0)).bad : Nat) : Int))
       rw [hpd.out,hb0.out]; exact hx
      ·have gD : (0 : Int) < (D.length : Int):=by have:=List.length_pos_iff.2 hD0; skip; omega
       replace hD0:=Hj hD0; go_upto_region 21 with (fail)
       go_upto_region 22 with (at_builtin; go_loud (refine push_ev (v:=Value.slice none 0 0) (n:=0) (xs:=[]) (B:=w5.heap.size) _ _ rfl rfl rfl (own_nil w12 (w5.heap.size) 77 8) rfl (by intro u hu; simp only [List.mem_cons,List.mem_nil_iff,or_false] at hu; rcases hu with rfl | rfl | rfl | rfl | rfl | rfl | rfl | rfl <;> rfl) (by omega) hzw12.out ?_); intro vo0 w13 how13 hgx hat; have hCw13:=Hj (Blk.grown8 (hCw12.out.alloc (.cells #[.int .i64 2,.string ⟨#[]⟩,.string ⟨#[]⟩,.slice none 0 0,.int .i64 0,.slice none 0 0,.slice AD D.length cD,.slice none 0 0] 77)) hgx (fun e => by cases e)); have hkw13:=Hj ((hkw12.out.alloc (.cells #[.int .i64 2,.string ⟨#[]⟩,.string ⟨#[]⟩,.slice none 0 0,.int .i64 0,.slice none 0 0,.slice AD D.length cD,.slice none 0 0] 77)).grown hgx (fun k e => by cases e)); have hzw13:=Hj (Nat.le_trans (Nat.le_trans hzw12.out (by rw [alloc_size']; omega)) hgx.size); have hlw13:=Hj ((hlw12.out.alloc (.cells #[.int .i64 2,.string ⟨#[]⟩,.string ⟨#[]⟩,.slice none 0 0,.int .i64 0,.slice none 0 0,.slice AD D.length cD,.slice none 0 0] 77)).grown hgx (fun k e => by cases e)); have hDw13:=Hj (own_kpg ((hDw12.out).alloc (.cells #[.int .i64 2,.string ⟨#[]⟩,.string ⟨#[]⟩,.slice none 0 0,.int .i64 0,.slice none 0 0,.slice AD D.length cD,.slice none 0 0] 77)) hgx (fun k _ e => by cases e)); clear hgx hat)
       obtain ⟨Ao0,co0,rfl,-,-,-⟩:=id (Rd.own how13)
       replace how13:=Hj how13; go_wp2; go_ret; have hes : Cn.evs D false [] = [Cn.evData D]:=by unfold Cn.evs; rw [if_neg hD0.out]; rfl
       refine Cn.PartR.mk (c:=(Cn.C.mk resp closed true meth many buf kind len dec 0)) (B:=w5.heap.size) (F':=fun k => F k ∨ Fd5 k) (D:=D) (dn:=false) (T:=[]) (er:=0) (meth':=meth) (buf':=(buf.drop nT)) hL.out rfl hpD.out hpN.out (fun h => by cases h) hpE0.out hpB.out rfl (by rw [hes]; exact (Cn.EvsC.one (Cn.evC_data (Rd.own hDw13.out) (On.own hDw13.out)))) (by rw [hes]; exact how13.out) hBw.out hFB.out hzw13.out (.inl hF.out) hFF.out (kpF2.out _ hkw13.out) hCw13.out ?_
       intro _; obtain ⟨k1,⟨k2a,k2b,k2c,k2d⟩,k3⟩:=hcut.out.rd hbuf.out
       refine ⟨hmeth.out.kp hmoff.out hkw13.out,hL.out.methF.mono (fun k h => ⟨.inl h.1,h.2⟩),⟨_,_,k2d,fun e => (by cases e),fun _ => ⟨k2a,k2b,rfl⟩⟩,k1.kp ((k3 _ (show On (fun k => ¬ (k = g ∨ Fd k)) _ from hboff.out)).off fun k h => h) hkw13.out,(k3 _ hL.out.bufF).mono (fun k h => ⟨.inl h.1,h.2⟩),fun hd => ?_⟩
       refine ⟨by rw [hpL.out],fun _ => ⟨gd,Fd5,rfl,?_,fun k h => .inr h,hng5.out,hom5.out,(k3 _ (show On (fun k => ¬ Fd5 k) _ from hob5.out)).off fun k h => h⟩⟩
       have hx:=hD5.out.kp hlw13.out (fun k h e => hng5.out (e ▸ h)); show Decv _ gd Fd5 (Cn.pDec (Cn.C.mk resp closed true meth many buf kind len dec 0)) (errV (((Cn.pDec (Cn.C.mk resp closed true meth many buf kind len dec 0)).bad : Nat) : Int))
       rw [hpd.out,hb0.out]; exact hx
     ·have hlt2 : nT < cap:=by omega
      have hcut : Hid (Cn.CutB (some ⟨b0,ob,none⟩) buf.length cap nT (.slice (some ⟨b0,ob + nT,none⟩) (buf.length - nT) (cap - nT))):=⟨b0,ob,rfl,hNl,hcap,.inl ⟨hlt2,rfl⟩⟩
      have c5:=hCw11.out.cell 5; have c9:=hCw11.out.cell 9; have cf5:=hCw11.out.frozen 5; have cf9:=hCw11.out.frozen 9; go_upto_region 17 with (fail)
      clear c5 c9 cf5 cf9; have hs : Kp (· = g) w11 ((w11.setCell ⟨g,5,none⟩ (.slice (some ⟨b0,ob + nT,none⟩) (buf.length - nT) (cap - nT))).setCell ⟨g,9,none⟩ (.nilIface)):=((Kp.refl (· = g) w11).set_ (g:=g) (fun _ => rfl) 5 (.slice (some ⟨b0,ob + nT,none⟩) (buf.length - nT) (cap - nT))).set_ (g:=g) (fun _ => rfl) 9 (.nilIface)
      have hCw12 : Blk ((w11.setCell ⟨g,5,none⟩ (.slice (some ⟨b0,ob + nT,none⟩) (buf.length - nT) (cap - nT))).setCell ⟨g,9,none⟩ (.nilIface)) g 73 #[.bool resp,.bool closed,.bool true,.slice Am meth.length cm,.int .i64 (many : Int),.slice (some ⟨b0,ob + nT,none⟩) (buf.length - nT) (cap - nT),.int .i64 (kind : Int),.int .i64 (len : Int),.pointer (some ⟨gd,0,none⟩),.nilIface]:=((hCw11.out.set_ 5 (.slice (some ⟨b0,ob + nT,none⟩) (buf.length - nT) (cap - nT))).set_ 9 (.nilIface))
      have hkw12:=hkw11.out.next (fun k _ e => Or.inl e) hs; have hzw12:=Nat.le_trans hzw11.out hs.size; have hlw12:=hlw11.out.trans hs; have hDw12:=hDw11.out.kp (fun k hk e => by have:=(World.ownsRow.lt hDw11.out k hk).1; have:=hgB.out; omega) hs
      generalize ((w11.setCell ⟨g,5,none⟩ (.slice (some ⟨b0,ob + nT,none⟩) (buf.length - nT) (cap - nT))).setCell ⟨g,9,none⟩ (.nilIface)) = w12 at *; clear hs; replace hCw12:=Hj hCw12; replace hkw12:=Hj hkw12; replace hzw12:=Hj hzw12; replace hDw12:=Hj hDw12; replace hlw12:=Hj hlw12; have hD6:=Hj (hD5.out.kp hlw12.out (fun k h e => hng5.out (e ▸ h))); have c8:=hCw12.out.cell 8; go_wp2_with fail
      refine (cdone_any hD6.out).mono ?_
      rintro e wx ⟨rfl,hwx⟩
      subst wx; rw [show decide (s2.place = 8) = false from decide_eq_false h8.out]
      go_upto_region 20 with (fail)
      clear c8; by_cases hD0 : D = []
      ·have gD : ¬ (0 : Int) < (D.length : Int):=by rw [show D.length = 0 from by rw [hD0]; rfl]; decide
       have gD2 : D.length = 0:=by omega
       replace gD2:=Hj gD2; replace hD0:=Hj hD0; skip
       go_wp2; go_ret; have hes : Cn.evs D false [] = []:=by unfold Cn.evs; rw [if_pos hD0.out]; rfl
       refine Cn.PartR.mk (c:=(Cn.C.mk resp closed true meth many buf kind len dec 0)) (B:=w5.heap.size) (F':=fun k => F k ∨ Fd5 k) (D:=D) (dn:=false) (T:=[]) (er:=0) (meth':=meth) (buf':=(buf.drop nT)) hL.out rfl hpD.out hpN.out (fun h => by cases h) hpE0.out hpB.out rfl (by rw [hes]; exact Cn.EvsC.nil) (by rw [hes]; exact (own_nil w12 (w5.heap.size) 77 8)) hBw.out hFB.out hzw12.out (.inl hF.out) hFF.out (kpF2.out _ hkw12.out) hCw12.out ?_
       intro _; obtain ⟨k1,⟨k2a,k2b,k2c,k2d⟩,k3⟩:=hcut.out.rd hbuf.out
       refine ⟨hmeth.out.kp hmoff.out hkw12.out,hL.out.methF.mono (fun k h => ⟨.inl h.1,h.2⟩),⟨_,_,k2d,fun e => (by cases e),fun _ => ⟨k2a,k2b,rfl⟩⟩,k1.kp ((k3 _ (show On (fun k => ¬ (k = g ∨ Fd k)) _ from hboff.out)).off fun k h => h) hkw12.out,(k3 _ hL.out.bufF).mono (fun k h => ⟨.inl h.1,h.2⟩),fun hd => ?_⟩
       refine ⟨by rw [hpL.out],fun _ => ⟨gd,Fd5,rfl,?_,fun k h => .inr h,hng5.out,hom5.out,(k3 _ (show On (fun k => ¬ Fd5 k) _ from hob5.out)).off fun k h => h⟩⟩
       have hx:=hD5.out.kp hlw12.out (fun k h e => hng5.out (e ▸ h)); show Decv _ gd Fd5 (Cn.pDec (Cn.C.mk resp closed true meth many buf kind len dec 0)) (errV (((Cn.pDec (Cn.C.mk resp closed true meth many buf kind len dec 0)).bad : Nat) : Int))
       rw [hpd.out,hb0.out]; exact hx
      ·have gD : (0 : Int) < (D.length : Int):=by have:=List.length_pos_iff.2 hD0; skip; omega
       replace hD0:=Hj hD0; go_upto_region 21 with (fail)
       go_upto_region 22 with (at_builtin; go_loud (refine push_ev (v:=Value.slice none 0 0) (n:=0) (xs:=[]) (B:=w5.heap.size) _ _ rfl rfl rfl (own_nil w12 (w5.heap.size) 77 8) rfl (by intro u hu; simp only [List.mem_cons,List.mem_nil_iff,or_false] at hu; rcases hu with rfl | rfl | rfl | rfl | rfl | rfl | rfl | rfl <;> rfl) (by omega) hzw12.out ?_); intro vo0 w13 how13 hgx hat; have hCw13:=Hj (Blk.grown8 (hCw12.out.alloc (.cells #[.int .i64 2,.string ⟨#[]⟩,.string ⟨#[]⟩,.slice none 0 0,.int .i64 0,.slice none 0 0,.slice AD D.length cD,.slice none 0 0] 77)) hgx (fun e => by cases e)); have hkw13:=Hj ((hkw12.out.alloc (.cells #[.int .i64 2,.string ⟨#[]⟩,.string ⟨#[]⟩,.slice none 0 0,.int .i64 0,.slice none 0 0,.slice AD D.length cD,.slice none 0 0] 77)).grown hgx (fun k e => by cases e)); have hzw13:=Hj (Nat.le_trans (Nat.le_trans hzw12.out (by rw [alloc_size']; omega)) hgx.size); have hlw13:=Hj ((hlw12.out.alloc (.cells #[.int .i64 2,.string ⟨#[]⟩,.string ⟨#[]⟩,.slice none 0 0,.int .i64 0,.slice none 0 0,.slice AD D.length cD,.slice none 0 0] 77)).grown hgx (fun k e => by cases e)); have hDw13:=Hj (own_kpg ((hDw12.out).alloc (.cells #[.int .i64 2,.string ⟨#[]⟩,.string ⟨#[]⟩,.slice none 0 0,.int .i64 0,.slice none 0 0,.slice AD D.length cD,.slice none 0 0] 77)) hgx (fun k _ e => by cases e)); clear hgx hat)
       obtain ⟨Ao0,co0,rfl,-,-,-⟩:=id (Rd.own how13)
       replace how13:=Hj how13; go_wp2; go_ret; have hes : Cn.evs D false [] = [Cn.evData D]:=by unfold Cn.evs; rw [if_neg hD0.out]; rfl
       refine Cn.PartR.mk (c:=(Cn.C.mk resp closed true meth many buf kind len dec 0)) (B:=w5.heap.size) (F':=fun k => F k ∨ Fd5 k) (D:=D) (dn:=false) (T:=[]) (er:=0) (meth':=meth) (buf':=(buf.drop nT)) hL.out rfl hpD.out hpN.out (fun h => by cases h) hpE0.out hpB.out rfl (by rw [hes]; exact (Cn.EvsC.one (Cn.evC_data (Rd.own hDw13.out) (On.own hDw13.out)))) (by rw [hes]; exact how13.out) hBw.out hFB.out hzw13.out (.inl hF.out) hFF.out (kpF2.out _ hkw13.out) hCw13.out ?_
       intro _; obtain ⟨k1,⟨k2a,k2b,k2c,k2d⟩,k3⟩:=hcut.out.rd hbuf.out
       refine ⟨hmeth.out.kp hmoff.out hkw13.out,hL.out.methF.mono (fun k h => ⟨.inl h.1,h.2⟩),⟨_,_,k2d,fun e => (by cases e),fun _ => ⟨k2a,k2b,rfl⟩⟩,k1.kp ((k3 _ (show On (fun k => ¬ (k = g ∨ Fd k)) _ from hboff.out)).off fun k h => h) hkw13.out,(k3 _ hL.out.bufF).mono (fun k h => ⟨.inl h.1,h.2⟩),fun hd => ?_⟩
       refine ⟨by rw [hpL.out],fun _ => ⟨gd,Fd5,rfl,?_,fun k h => .inr h,hng5.out,hom5.out,(k3 _ (show On (fun k => ¬ Fd5 k) _ from hob5.out)).off fun k h => h⟩⟩
       have hx:=hD5.out.kp hlw13.out (fun k h e => hng5.out (e ▸ h)); show Decv _ gd Fd5 (Cn.pDec (Cn.C.mk resp closed true meth many buf kind len dec 0)) (errV (((Cn.pDec (Cn.C.mk resp closed true meth many buf kind len dec 0)).bad : Nat) : Int))
       rw [hpd.out,hb0.out]; exact hx
   ·have hpN : Cn.pDone (Cn.C.mk resp closed true meth many buf kind len dec 0) = false:=by rw [hpN0]; exact decide_eq_false (fun h => hb0 h.1)
    have hbi : (s2.bad : Int) ≠ 0:=by omega
    have hev : errV (s2.bad : Int) = .iface 57 (.int .i64 (s2.bad : Int)):=if_neg hbi
    rw [hev] at hWr
    replace hWr:=Hj hWr; clear hpN0; replace hpN:=Hj hpN; replace hb0:=Hj hb0; have c6:=hCw.out.cell 6; go_enter Tryz.func31,Tryz.ntmps31
    go_upto_region 14 with (fail)
    clear c6; go_region_held3 (fun w' => w'.cell? ⟨g,8,none⟩ = some (.pointer (some ⟨gd,0,none⟩)) ∧ w'.cell? ⟨g,5,none⟩ = some (.slice (some ⟨b0,ob,none⟩) buf.length cap))
     (first | exact hS.out _ (by first | with_reducible exact Kp.refl _ _ | with_reducible exact (Kp.refl _ _).drew | with_reducible assumption | with_reducible exact Kp.drew (by with_reducible assumption)))
     (first | (go_at_call 57; refine (hWr.out _ (by first | with_reducible exact Kp.refl _ _ | with_reducible exact (Kp.refl _ _).drew)).mono ?_; rintro e w5 ⟨vb5,Fd5,rfl,hv5,hoff5,hD5,hFd5,hkx⟩; (first | have hk5 : Kp Fd w w5:=hkx | have hk5 : Kp Fd w w5:=((Kp.refl Fd w).drew).trans hkx)))
    have hgBw:=hgB.out; have hBw5 : w.heap.size ≤ w5.heap.size:=hk5.size
    have hCw5:=Hj (hCF.out w5 hk5); have hkw5:=Hj (hk5.mono (F:=fun k => k = g ∨ Fd k) (fun k _ h => Or.inr h)); have hzw5 : Hid (w5.heap.size ≤ w5.heap.size):=Hj (Nat.le_refl _)
    have hlw5:=Hj (Kp.refl (· = g) w5); have hgB : Hid (g < w5.heap.size):=Hj (by omega)
    have hBw : Hid (w.heap.size ≤ w5.heap.size):=Hj hBw5
    have hFB : ∀ k,(F k ∨ Fd5 k) → k < w5.heap.size:=fun k h => h.elim (fun h => by have:=hlt.out k h; omega) (hD5.2.1 k)
    have hFF : ∀ k,(F k ∨ Fd5 k) → F k ∨ w.heap.size ≤ k:=fun k h => h.elim Or.inl (fun h => (hFd5 k h).imp (hsub.out k) id)
    have hng5 : ¬ Fd5 g:=fun h => (hFd5 g h).elim hng.out (fun h => by have : w.heap.size ≤ g:=h; omega)
    have hom5 : Off Fd5 (.slice Am meth.length cm):=fun k hk h => (hFd5 k h).elim (hom.out k hk) (fun h => by have:=hlt.out k (hL.out.methF k hk).1; have : w.heap.size ≤ k:=h; omega)
    have hob5 : Off Fd5 (.slice (some ⟨b0,ob,none⟩) buf.length cap):=fun k hk h => (hFd5 k h).elim (hob.out k hk) (fun h => by have:=hlt.out k (hL.out.bufF k hk).1; have : w.heap.size ≤ k:=h; omega)
    have hr5:=Hj (Rd.own hv5); obtain ⟨A5,c5v,rfl,-,-,-⟩:=id hr5.out; clear hkx hk5 hWr hS hCF hv5 hoff5; replace hFB:=Hj hFB; replace hFF:=Hj hFF; replace hng5:=Hj hng5; replace hom5:=Hj hom5; replace hob5:=Hj hob5; replace hD5:=Hj hD5; replace hFd5:=Hj hFd5; clear hgBw hBw5; have h1c : ∀ u ∈ u8s D,u.oneCell' = true:=fun u hu => by obtain ⟨x,-,rfl⟩:=List.mem_map.1 hu; rfl
    replace h1c:=Hj h1c; go_upto_region 16 with (at_builtin; go_loud (refine step_pushR (v:=Value.slice none 0 0) (n:=0) (m:=D.length) (xs:=[]) (news:=u8s D) (c:=c5v) (A:=A5) (B:=w5.heap.size) 23 5 (.int .u8 0) 1 1 _ _ rfl rfl Tryz.underlying23 infoU8 rfl (by decide) (by decide) rfl (own_nil _ _ _ _) rfl hr5.out h1c.out (by omega) hzw5.out ?_); intro vD w11 hDw11 hgx hat; rw [Nat.zero_add,List.nil_append] at hDw11; have hCw11:=Hj (Blk.grown8 hCw5.out hgx (fun e => by cases e)); have hkw11:=Hj (hkw5.out.grown hgx (fun k e => by cases e)); have hzw11:=Hj (Nat.le_trans hzw5.out hgx.size); have hlw11:=Hj (hlw5.out.grown hgx (fun k e => by cases e)); clear hgx hat)
    obtain ⟨AD,cD,rfl,-,-,-⟩:=id (Rd.own hDw11)
    replace hDw11:=Hj hDw11; clear h1c; have g7 : (nT : Int) ≤ (cap : Int):=by omega
    have g8 : nT ≤ cap:=by omega
    by_cases hcp : nT = cap
    ·subst hcp
     have hcut : Hid (Cn.CutB (some ⟨b0,ob,none⟩) buf.length nT nT (.slice (some ⟨b0,ob,none⟩) 0 0)):=⟨b0,ob,rfl,hNl,hcap,.inr ⟨rfl,rfl⟩⟩
     have c5:=hCw11.out.cell 5; have c9:=hCw11.out.cell 9; have cf5:=hCw11.out.frozen 5; have cf9:=hCw11.out.frozen 9; go_upto_region 17 with (fail)
     clear c5 c9 cf5 cf9; have hs : Kp (· = g) w11 ((w11.setCell ⟨g,5,none⟩ (.slice (some ⟨b0,ob,none⟩) 0 0)).setCell ⟨g,9,none⟩ (.iface 57 (.int .i64 (s2.bad : Int)))):=((Kp.refl (· = g) w11).set_ (g:=g) (fun _ => rfl) 5 (.slice (some ⟨b0,ob,none⟩) 0 0)).set_ (g:=g) (fun _ => rfl) 9 (.iface 57 (.int .i64 (s2.bad : Int)))
     have hCw12 : Blk ((w11.setCell ⟨g,5,none⟩ (.slice (some ⟨b0,ob,none⟩) 0 0)).setCell ⟨g,9,none⟩ (.iface 57 (.int .i64 (s2.bad : Int)))) g 73 #[.bool resp,.bool closed,.bool true,.slice Am meth.length cm,.int .i64 (many : Int),.slice (some ⟨b0,ob,none⟩) 0 0,.int .i64 (kind : Int),.int .i64 (len : Int),.pointer (some ⟨gd,0,none⟩),.iface 57 (.int .i64 (s2.bad : Int))]:=((hCw11.out.set_ 5 (.slice (some ⟨b0,ob,none⟩) 0 0)).set_ 9 (.iface 57 (.int .i64 (s2.bad : Int))))
     have hkw12:=hkw11.out.next (fun k _ e => Or.inl e) hs; have hzw12:=Nat.le_trans hzw11.out hs.size; have hlw12:=hlw11.out.trans hs; have hDw12:=hDw11.out.kp (fun k hk e => by have:=(World.ownsRow.lt hDw11.out k hk).1; have:=hgB.out; omega) hs
     generalize ((w11.setCell ⟨g,5,none⟩ (.slice (some ⟨b0,ob,none⟩) 0 0)).setCell ⟨g,9,none⟩ (.iface 57 (.int .i64 (s2.bad : Int)))) = w12 at *; clear hs; replace hCw12:=Hj hCw12; replace hkw12:=Hj hkw12; replace hzw12:=Hj hzw12; replace hDw12:=Hj hDw12; replace hlw12:=Hj hlw12; go_upto_region 20 with (fail)
     by_cases hD0 : D = []
     ·have gD : ¬ (0 : Int) < (D.length : Int):=by rw [show D.length = 0 from by rw [hD0]; rfl]; decide
      have gD2 : D.length = 0:=by omega
      replace gD2:=Hj gD2; replace hD0:=Hj hD0; skip
      go_wp2; go_ret; have hes : Cn.evs D false [] = []:=by unfold Cn.evs; rw [if_pos hD0.out]; rfl
      refine Cn.PartR.mk (c:=(Cn.C.mk resp closed true meth many buf kind len dec 0)) (B:=w5.heap.size) (F':=fun k => F k ∨ Fd5 k) (D:=D) (dn:=false) (T:=[]) (er:=(s2.bad : Int)) (meth':=meth) (buf':=(buf.drop nT)) hL.out rfl hpD.out hpN.out (fun h => by cases h) hpE.out hpB.out rfl (by rw [hes]; exact Cn.EvsC.nil) (by rw [hes]; exact (own_nil w12 (w5.heap.size) 77 8)) hBw.out hFB.out hzw12.out (.inl hF.out) hFF.out (kpF2.out _ hkw12.out) (by rw [hev]; exact hCw12.out) ?_
      exact fun h => absurd h hbi
     ·have gD : (0 : Int) < (D.length : Int):=by have:=List.length_pos_iff.2 hD0; skip; omega
      replace hD0:=Hj hD0; go_upto_region 21 with (fail)
      go_upto_region 22 with (at_builtin; go_loud (refine push_ev (v:=Value.slice none 0 0) (n:=0) (xs:=[]) (B:=w5.heap.size) _ _ rfl rfl rfl (own_nil w12 (w5.heap.size) 77 8) rfl (by intro u hu; simp only [List.mem_cons,List.mem_nil_iff,or_false] at hu; rcases hu with rfl | rfl | rfl | rfl | rfl | rfl | rfl | rfl <;> rfl) (by omega) hzw12.out ?_); intro vo0 w13 how13 hgx hat; have hCw13:=Hj (Blk.grown8 (hCw12.out.alloc (.cells #[.int .i64 2,.string ⟨#[]⟩,.string ⟨#[]⟩,.slice none 0 0,.int .i64 0,.slice none 0 0,.slice AD D.length cD,.slice none 0 0] 77)) hgx (fun e => by cases e)); have hkw13:=Hj ((hkw12.out.alloc (.cells #[.int .i64 2,.string ⟨#[]⟩,.string ⟨#[]⟩,.slice none 0 0,.int .i64 0,.slice none 0 0,.slice AD D.length cD,.slice none 0 0] 77)).grown hgx (fun k e => by cases e)); have hzw13:=Hj (Nat.le_trans (Nat.le_trans hzw12.out (by rw [alloc_size']; omega)) hgx.size); have hlw13:=Hj ((hlw12.out.alloc (.cells #[.int .i64 2,.string ⟨#[]⟩,.string ⟨#[]⟩,.slice none 0 0,.int .i64 0,.slice none 0 0,.slice AD D.length cD,.slice none 0 0] 77)).grown hgx (fun k e => by cases e)); have hDw13:=Hj (own_kpg ((hDw12.out).alloc (.cells #[.int .i64 2,.string ⟨#[]⟩,.string ⟨#[]⟩,.slice none 0 0,.int .i64 0,.slice none 0 0,.slice AD D.length cD,.slice none 0 0] 77)) hgx (fun k _ e => by cases e)); clear hgx hat)
      obtain ⟨Ao0,co0,rfl,-,-,-⟩:=id (Rd.own how13)
      replace how13:=Hj how13; go_wp2; go_ret; have hes : Cn.evs D false [] = [Cn.evData D]:=by unfold Cn.evs; rw [if_neg hD0.out]; rfl
      refine Cn.PartR.mk (c:=(Cn.C.mk resp closed true meth many buf kind len dec 0)) (B:=w5.heap.size) (F':=fun k => F k ∨ Fd5 k) (D:=D) (dn:=false) (T:=[]) (er:=(s2.bad : Int)) (meth':=meth) (buf':=(buf.drop nT)) hL.out rfl hpD.out hpN.out (fun h => by cases h) hpE.out hpB.out rfl (by rw [hes]; exact (Cn.EvsC.one (Cn.evC_data (Rd.own hDw13.out) (On.own hDw13.out)))) (by rw [hes]; exact how13.out) hBw.out hFB.out hzw13.out (.inl hF.out) hFF.out (kpF2.out _ hkw13.out) (by rw [hev]; exact hCw13.out) ?_
      exact fun h => absurd h hbi
    ·have hlt2 : nT < cap:=by omega
     have hcut : Hid (Cn.CutB (some ⟨b0,ob,none⟩) buf.length cap nT (.slice (some ⟨b0,ob + nT,none⟩) (buf.length - nT) (cap - nT))):=⟨b0,ob,rfl,hNl,hcap,.inl ⟨hlt2,rfl⟩⟩
     have c5:=hCw11.out.cell 5; have c9:=hCw11.out.cell 9; have cf5:=hCw11.out.frozen 5; have cf9:=hCw11.out.frozen 9; go_upto_region 17 with (fail)
     clear c5 c9 cf5 cf9; have hs : Kp (· = g) w11 ((w11.setCell ⟨g,5,none⟩ (.slice (some ⟨b0,ob + nT,none⟩) (buf.length - nT) (cap - nT))).setCell ⟨g,9,none⟩ (.iface 57 (.int .i64 (s2.bad : Int)))):=((Kp.refl (· = g) w11).set_ (g:=g) (fun _ => rfl) 5 (.slice (some ⟨b0,ob + nT,none⟩) (buf.length - nT) (cap - nT))).set_ (g:=g) (fun _ => rfl) 9 (.iface 57 (.int .i64 (s2.bad : Int)))
     have hCw12 : Blk ((w11.setCell ⟨g,5,none⟩ (.slice (some ⟨b0,ob + nT,none⟩) (buf.length - nT) (cap - nT))).setCell ⟨g,9,none⟩ (.iface 57 (.int .i64 (s2.bad : Int)))) g 73 #[.bool resp,.bool closed,.bool true,.slice Am meth.length cm,.int .i64 (many : Int),.slice (some ⟨b0,ob + nT,none⟩) (buf.length - nT) (cap - nT),.int .i64 (kind : Int),.int .i64 (len : Int),.pointer (some ⟨gd,0,none⟩),.iface 57 (.int .i64 (s2.bad : Int))]:=((hCw11.out.set_ 5 (.slice (some ⟨b0,ob + nT,none⟩) (buf.length - nT) (cap - nT))).set_ 9 (.iface 57 (.int .i64 (s2.bad : Int))))
     have hkw12:=hkw11.out.next (fun k _ e => Or.inl e) hs; have hzw12:=Nat.le_trans hzw11.out hs.size; have hlw12:=hlw11.out.trans hs; have hDw12:=hDw11.out.kp (fun k hk e => by have:=(World.ownsRow.lt hDw11.out k hk).1; have:=hgB.out; omega) hs
     generalize ((w11.setCell ⟨g,5,none⟩ (.slice (some ⟨b0,ob + nT,none⟩) (buf.length - nT) (cap - nT))).setCell ⟨g,9,none⟩ (.iface 57 (.int .i64 (s2.bad : Int)))) = w12 at *; clear hs; replace hCw12:=Hj hCw12; replace hkw12:=Hj hkw12; replace hzw12:=Hj hzw12; replace hDw12:=Hj hDw12; replace hlw12:=Hj hlw12; go_upto_region 20 with (fail)
     by_cases hD0 : D = []
     ·have gD : ¬ (0 : Int) < (D.length : Int):=by rw [show D.length = 0 from by rw [hD0]; rfl]; decide
      have gD2 : D.length = 0:=by omega
      replace gD2:=Hj gD2; replace hD0:=Hj hD0; skip
      go_wp2; go_ret; have hes : Cn.evs D false [] = []:=by unfold Cn.evs; rw [if_pos hD0.out]; rfl
      refine Cn.PartR.mk (c:=(Cn.C.mk resp closed true meth many buf kind len dec 0)) (B:=w5.heap.size) (F':=fun k => F k ∨ Fd5 k) (D:=D) (dn:=false) (T:=[]) (er:=(s2.bad : Int)) (meth':=meth) (buf':=(buf.drop nT)) hL.out rfl hpD.out hpN.out (fun h => by cases h) hpE.out hpB.out rfl (by rw [hes]; exact Cn.EvsC.nil) (by rw [hes]; exact (own_nil w12 (w5.heap.size) 77 8)) hBw.out hFB.out hzw12.out (.inl hF.out) hFF.out (kpF2.out _ hkw12.out) (by rw [hev]; exact hCw12.out) ?_
      exact fun h => absurd h hbi
     ·have gD : (0 : Int) < (D.length : Int):=by have:=List.length_pos_iff.2 hD0; skip; omega
      replace hD0:=Hj hD0; go_upto_region 21 with (fail)
      go_upto_region 22 with (at_builtin; go_loud (refine push_ev (v:=Value.slice none 0 0) (n:=0) (xs:=[]) (B:=w5.heap.size) _ _ rfl rfl rfl (own_nil w12 (w5.heap.size) 77 8) rfl (by intro u hu; simp only [List.mem_cons,List.mem_nil_iff,or_false] at hu; rcases hu with rfl | rfl | rfl | rfl | rfl | rfl | rfl | rfl <;> rfl) (by omega) hzw12.out ?_); intro vo0 w13 how13 hgx hat; have hCw13:=Hj (Blk.grown8 (hCw12.out.alloc (.cells #[.int .i64 2,.string ⟨#[]⟩,.string ⟨#[]⟩,.slice none 0 0,.int .i64 0,.slice none 0 0,.slice AD D.length cD,.slice none 0 0] 77)) hgx (fun e => by cases e)); have hkw13:=Hj ((hkw12.out.alloc (.cells #[.int .i64 2,.string ⟨#[]⟩,.string ⟨#[]⟩,.slice none 0 0,.int .i64 0,.slice none 0 0,.slice AD D.length cD,.slice none 0 0] 77)).grown hgx (fun k e => by cases e)); have hzw13:=Hj (Nat.le_trans (Nat.le_trans hzw12.out (by rw [alloc_size']; omega)) hgx.size); have hlw13:=Hj ((hlw12.out.alloc (.cells #[.int .i64 2,.string ⟨#[]⟩,.string ⟨#[]⟩,.slice none 0 0,.int .i64 0,.slice none 0 0,.slice AD D.length cD,.slice none 0 0] 77)).grown hgx (fun k e => by cases e)); have hDw13:=Hj (own_kpg ((hDw12.out).alloc (.cells #[.int .i64 2,.string ⟨#[]⟩,.string ⟨#[]⟩,.slice none 0 0,.int .i64 0,.slice none 0 0,.slice AD D.length cD,.slice none 0 0] 77)) hgx (fun k _ e => by cases e)); clear hgx hat)
      obtain ⟨Ao0,co0,rfl,-,-,-⟩:=id (Rd.own how13)
      replace how13:=Hj how13; go_wp2; go_ret; have hes : Cn.evs D false [] = [Cn.evData D]:=by unfold Cn.evs; rw [if_neg hD0.out]; rfl
      refine Cn.PartR.mk (c:=(Cn.C.mk resp closed true meth many buf kind len dec 0)) (B:=w5.heap.size) (F':=fun k => F k ∨ Fd5 k) (D:=D) (dn:=false) (T:=[]) (er:=(s2.bad : Int)) (meth':=meth) (buf':=(buf.drop nT)) hL.out rfl hpD.out hpN.out (fun h => by cases h) hpE.out hpB.out rfl (by rw [hes]; exact (Cn.EvsC.one (Cn.evC_data (Rd.own hDw13.out) (On.own hDw13.out)))) (by rw [hes]; exact how13.out) hBw.out hFB.out hzw13.out (.inl hF.out) hFF.out (kpF2.out _ hkw13.out) (by rw [hev]; exact hCw13.out) ?_
      exact fun h => absurd h hbi
  ·skip
   obtain ⟨b0,ob,rfl⟩:=hA4.out h4
   have q4 : ((kind : Int) == 4) = false:=beq_false_of_ne (by omega)
   have q3 : ((kind : Int) == 3) = false:=beq_false_of_ne (by omega)
   have hpD0 : Cn.pData (Cn.C.mk resp closed true meth many buf kind len dec 0) = buf.take len:=by unfold Cn.pData; rw [if_neg (show ¬ kind = 4 from h4),if_neg (show ¬ kind = 3 from h3)]
   have hpN0 : Cn.pDone (Cn.C.mk resp closed true meth many buf kind len dec 0) = decide (len ≤ buf.length):=by unfold Cn.pDone; rw [if_neg (show ¬ kind = 4 from h4),if_neg (show ¬ kind = 3 from h3)]
   have hpE : Cn.pErr (Cn.C.mk resp closed true meth many buf kind len dec 0) = 0:=by unfold Cn.pErr; exact if_neg (show ¬ kind = 3 from h3)
   have hpB0 : Cn.pBuf (Cn.C.mk resp closed true meth many buf kind len dec 0) = buf.drop len:=by unfold Cn.pBuf; rw [if_neg (show ¬ kind = 4 from h4),if_neg (show ¬ kind = 3 from h3)]
   have hpT : Cn.pTr (Cn.C.mk resp closed true meth many buf kind len dec 0) = []:=by unfold Cn.pTr; exact if_neg (show ¬ kind = 3 from h3)
   have hpL : Cn.pLen (Cn.C.mk resp closed true meth many buf kind len dec 0) = len - buf.length:=by unfold Cn.pLen; exact if_neg (by rintro (h | h); exact h3 h; exact h4 h)
   replace h4:=Hj h4; replace h3:=Hj h3; replace hpE:=Hj hpE; replace hpT:=Hj hpT; replace hpL:=Hj hpL; by_cases hle : len ≤ buf.length
   ·have hpN : Cn.pDone (Cn.C.mk resp closed true meth many buf kind len dec 0) = true:=by rw [hpN0]; exact decide_eq_true hle
    have hpD:=hpD0; have hDl : (buf.take len).length = len:=by rw [List.length_take]; omega
    have hpB:=hpB0; have gmin : (len : Int) ≤ (buf.length : Int):=by omega
    clear hpN0 hpD0 hpB0; replace hpN:=Hj hpN; replace hpD:=Hj hpD; replace hpB:=Hj hpB; have hfr:=Hj (Cn.rd_frontB hbuf.out hle); have hNl : len ≤ buf.length:=hle
    replace hDl:=Hj hDl; have c5:=hCw.out.cell 5; have c6:=hCw.out.cell 6; have c7:=hCw.out.cell 7; go_enter Tryz.func31,Tryz.ntmps31
    go_upto_region 5 with (fail)
    go_region
    rw [show min (len : Int) (buf.length : Int) = (len : Int) from by omega]
    clear c5 c6 c7; have hCw14 : Blk w.drew g 73 #[.bool resp,.bool closed,.bool true,.slice Am meth.length cm,.int .i64 (many : Int),.slice (some ⟨b0,ob,none⟩) buf.length cap,.int .i64 (kind : Int),.int .i64 (len : Int),vd,.nilIface]:=hCw.out
    have hkw14:=hkw.out.drew; have hzw14 : w.heap.size ≤ w.drew.heap.size:=hzw.out
    have hfr2 : Rd w.drew 1 (.slice (some ⟨b0,ob,none⟩) len cap) len (u8s (buf.take len)):=hfr.out.drewN 1
    generalize w.drew = w14 at *; replace hCw14:=Hj hCw14; replace hkw14:=Hj hkw14; replace hzw14:=Hj hzw14; replace hfr2:=Hj hfr2; have g7 : (len : Int) ≤ (cap : Int):=by omega
    have g8 : len ≤ cap:=by omega
    have c5:=hCw14.out.cell 5; have h1c : ∀ u ∈ u8s (buf.take len),u.oneCell' = true:=fun u hu => by obtain ⟨x,-,rfl⟩:=List.mem_map.1 hu; rfl
    replace h1c:=Hj h1c; go_upto_region 7 with (at_builtin; go_loud (refine step_pushR (v:=Value.slice none 0 0) (n:=0) (m:=len) (xs:=[]) (news:=u8s (buf.take len)) (c:=cap) (A:=(some ⟨b0,ob,none⟩)) (B:=w.heap.size) 23 5 (.int .u8 0) 1 1 _ _ rfl rfl Tryz.underlying23 infoU8 rfl (by decide) (by decide) rfl (own_nil _ _ _ _) rfl hfr2.out h1c.out (by omega) hzw14.out ?_); intro vD w15 hDw15 hgx hat; rw [Nat.zero_add,List.nil_append] at hDw15; have hCw15:=Hj (Blk.grown8 hCw14.out hgx (fun e => by cases e)); have hkw15:=Hj (hkw14.out.grown hgx (fun k e => by cases e)); have hzw15:=Hj (Nat.le_trans hzw14.out hgx.size); clear hgx hat)
    obtain ⟨AD,cD,rfl,-,-,-⟩:=id (Rd.own hDw15)
    replace hDw15:=Hj hDw15; clear h1c; clear c5; by_cases hcp : len = cap
    ·subst hcp
     have hcut : Hid (Cn.CutB (some ⟨b0,ob,none⟩) buf.length len len (.slice (some ⟨b0,ob,none⟩) 0 0)):=⟨b0,ob,rfl,hNl,hcap,.inr ⟨rfl,rfl⟩⟩
     have c5:=hCw15.out.cell 5; have c7:=hCw15.out.cell 7; have cf5:=hCw15.out.frozen 5; have cf7:=hCw15.out.frozen 7; go_upto_region 9 with (fail)
     clear c5 c7 cf5 cf7; have hs : Kp (· = g) w15 ((w15.setCell ⟨g,5,none⟩ (.slice (some ⟨b0,ob,none⟩) 0 0)).setCell ⟨g,7,none⟩ (.int .i64 0)):=((Kp.refl (· = g) w15).set_ (g:=g) (fun _ => rfl) 5 (.slice (some ⟨b0,ob,none⟩) 0 0)).set_ (g:=g) (fun _ => rfl) 7 (.int .i64 0)
     have hCw16 : Blk ((w15.setCell ⟨g,5,none⟩ (.slice (some ⟨b0,ob,none⟩) 0 0)).setCell ⟨g,7,none⟩ (.int .i64 0)) g 73 #[.bool resp,.bool closed,.bool true,.slice Am meth.length cm,.int .i64 (many : Int),.slice (some ⟨b0,ob,none⟩) 0 0,.int .i64 (kind : Int),.int .i64 0,vd,.nilIface]:=((hCw15.out.set_ 5 (.slice (some ⟨b0,ob,none⟩) 0 0)).set_ 7 (.int .i64 0))
     have hkw16:=hkw15.out.next (fun k _ e => e) hs; have hzw16:=Nat.le_trans hzw15.out hs.size; have hDw16:=hDw15.out.kp (fun k hk e => by have:=(World.ownsRow.lt hDw15.out k hk).1; have:=hgB.out; omega) hs
     generalize ((w15.setCell ⟨g,5,none⟩ (.slice (some ⟨b0,ob,none⟩) 0 0)).setCell ⟨g,7,none⟩ (.int .i64 0)) = w16 at *; clear hs; replace hCw16:=Hj hCw16; replace hkw16:=Hj hkw16; replace hzw16:=Hj hzw16; replace hDw16:=Hj hDw16; have c7:=hCw16.out.cell 7; go_upto_region 20 with (fail)
     clear c7; by_cases hD0 : (buf.take len) = []
     ·have gD : ¬ (0 : Int) < (len : Int):=by rw [show len = 0 from by rw [← hDl.out,hD0]; rfl]; decide
      have gD2 : len = 0:=by omega
      replace gD2:=Hj gD2; replace hD0:=Hj hD0; skip
      go_upto_region 24 with (at_builtin; go_loud (refine push_ev (v:=Value.slice none 0 0) (n:=0) (xs:=[]) (B:=w.heap.size) _ _ rfl rfl rfl (own_nil w16 (w.heap.size) 77 8) rfl (by intro u hu; simp only [List.mem_cons,List.mem_nil_iff,or_false] at hu; rcases hu with rfl | rfl | rfl | rfl | rfl | rfl | rfl | rfl <;> rfl) (by omega) hzw16.out ?_); intro vo0 w17 how17 hgx hat; have hCw17:=Hj (Blk.grown8 (hCw16.out.alloc (.cells #[.int .i64 3,.string ⟨#[]⟩,.string ⟨#[]⟩,.slice none 0 0,.int .i64 0,.slice none 0 0,.slice none 0 0,.slice none 0 0] 77)) hgx (fun e => by cases e)); have hkw17:=Hj ((hkw16.out.alloc (.cells #[.int .i64 3,.string ⟨#[]⟩,.string ⟨#[]⟩,.slice none 0 0,.int .i64 0,.slice none 0 0,.slice none 0 0,.slice none 0 0] 77)).grown hgx (fun k e => by cases e)); have hzw17:=Hj (Nat.le_trans (Nat.le_trans hzw16.out (by rw [alloc_size']; omega)) hgx.size); have hDw17:=Hj (own_kpg ((hDw16.out).alloc (.cells #[.int .i64 3,.string ⟨#[]⟩,.string ⟨#[]⟩,.slice none 0 0,.int .i64 0,.slice none 0 0,.slice none 0 0,.slice none 0 0] 77)) hgx (fun k _ e => by cases e)); clear hgx hat)
      obtain ⟨Ao0,co0,rfl,-,-,-⟩:=id (Rd.own how17)
      replace how17:=Hj how17; have c2:=hCw17.out.cell 2; have cf2:=hCw17.out.frozen 2; go_upto_region 25 with (fail)
      clear c2 cf2; have hs : Kp (· = g) w17 (w17.setCell ⟨g,2,none⟩ (.bool false)):=(Kp.refl (· = g) w17).set_ (g:=g) (fun _ => rfl) 2 (.bool false)
      have hCw18 : Blk (w17.setCell ⟨g,2,none⟩ (.bool false)) g 73 #[.bool resp,.bool closed,.bool false,.slice Am meth.length cm,.int .i64 (many : Int),.slice (some ⟨b0,ob,none⟩) 0 0,.int .i64 (kind : Int),.int .i64 0,vd,.nilIface]:=(hCw17.out.set_ 2 (.bool false))
      have hkw18:=hkw17.out.next (fun k _ e => e) hs; have hzw18:=Nat.le_trans hzw17.out hs.size; have hDw18:=hDw17.out.kp (fun k hk e => by have:=(World.ownsRow.lt hDw17.out k hk).1; have:=hgB.out; omega) hs
      have how18:=how17.out.kp (fun k hk e => by have:=(World.ownsRow.lt how17.out k hk).1; have:=hgB.out; omega) hs
      generalize (w17.setCell ⟨g,2,none⟩ (.bool false)) = w18 at *; clear hs; replace hCw18:=Hj hCw18; replace hkw18:=Hj hkw18; replace hzw18:=Hj hzw18; replace hDw18:=Hj hDw18; replace how18:=Hj how18; cases resp with
      | false =>
       have c0:=hCw18.out.cell 0; go_wp2; go_ret; have hes : Cn.evs (buf.take len) true [] = [Cn.evEnd []]:=by unfold Cn.evs; rw [if_pos hD0.out]; rfl
       refine Cn.PartR.mk (c:=(Cn.C.mk false closed true meth many buf kind len dec 0)) (B:=w.heap.size) (F':=F) (D:=(buf.take len)) (dn:=true) (T:=[]) (er:=0) (meth':=meth) (buf':=(buf.drop len)) hL.out rfl hpD.out hpN.out (fun _ => hpT.out) hpE.out hpB.out rfl (by rw [hes]; exact (Cn.EvsC.one (Cn.evC_end (L:=[]) (Rd.nil _ 2) (On.nil _)))) (by rw [hes]; exact how18.out) hBw.out hlt.out hzw18.out hF.out (fun k h => .inl h) (kpF.out _ hkw18.out) hCw18.out ?_
       intro _; obtain ⟨k1,⟨k2a,k2b,k2c,k2d⟩,k3⟩:=hcut.out.rd hbuf.out
       refine ⟨hmeth.out.kp (hL.out.methF.off fun k h e => h.2 e) hkw18.out,hL.out.methF,⟨_,_,k2d,fun e => (by cases e),fun _ => ⟨k2a,k2b,rfl⟩⟩,k1.kp ((k3 _ hL.out.bufF).off fun k h e => h.2 e) hkw18.out,k3 _ hL.out.bufF,fun hd => ?_⟩
       cases hd
      | true =>
       obtain ⟨bm,om,hAm⟩ : ∃ b o,Am = some ⟨b,o,none⟩:=by
        obtain ⟨Ax,cx,ex,-,-,rx⟩:=id hmeth.out; cases ex
        obtain ⟨b,o,e,-⟩:=rx (List.length_pos_iff.2 (hone.out rfl))
        exact ⟨b,o,e⟩
       subst hAm; have gml : 0 < meth.length:=List.length_pos_iff.2 (hone.out rfl)
       by_cases hcm1 : cm = 1
       ·obtain rfl:=hcm1
        obtain ⟨m1,hm1⟩ : ∃ m,meth = [m]:=List.length_eq_one_iff.1 (by omega)
        subst hm1; have c0:=hCw18.out.cell 0; have c3:=hCw18.out.cell 3; have cf3:=hCw18.out.frozen 3; go_upto_region 27 with (fail)
        clear c0 c3 cf3; have hs : Kp (· = g) w18 (w18.setCell ⟨g,3,none⟩ (.slice (some ⟨bm,om,none⟩) 0 0)):=(Kp.refl (· = g) w18).set_ (g:=g) (fun _ => rfl) 3 (.slice (some ⟨bm,om,none⟩) 0 0)
        have hCw19 : Blk (w18.setCell ⟨g,3,none⟩ (.slice (some ⟨bm,om,none⟩) 0 0)) g 73 #[.bool true,.bool closed,.bool false,.slice (some ⟨bm,om,none⟩) 0 0,.int .i64 (many : Int),.slice (some ⟨b0,ob,none⟩) 0 0,.int .i64 (kind : Int),.int .i64 0,vd,.nilIface]:=(hCw18.out.set_ 3 (.slice (some ⟨bm,om,none⟩) 0 0))
        have hkw19:=hkw18.out.next (fun k _ e => e) hs; have hzw19:=Nat.le_trans hzw18.out hs.size; have hDw19:=hDw18.out.kp (fun k hk e => by have:=(World.ownsRow.lt hDw18.out k hk).1; have:=hgB.out; omega) hs
        have how19:=how18.out.kp (fun k hk e => by have:=(World.ownsRow.lt how18.out k hk).1; have:=hgB.out; omega) hs
        generalize (w18.setCell ⟨g,3,none⟩ (.slice (some ⟨bm,om,none⟩) 0 0)) = w19 at *; clear hs; replace hCw19:=Hj hCw19; replace hkw19:=Hj hkw19; replace hzw19:=Hj hzw19; replace hDw19:=Hj hDw19; replace how19:=Hj how19; obtain ⟨bx,ox,ex,t1,t2,t3⟩:=Cn.meth_tail (G:=(· = g)) (F':=F) hmeth.out (by simp) hkw19.out hL.out.methF (fun k h e => (hL.out.methF k h).2 e) (fun k h => h)
        cases ex
        have hmt:=Hj (t1 rfl); have hmO:=Hj (t3 (.slice (some ⟨bm,om,none⟩) 0 0) rfl); clear t1 t2 t3; go_wp2; go_ret; have hes : Cn.evs (buf.take len) true [] = [Cn.evEnd []]:=by unfold Cn.evs; rw [if_pos hD0.out]; rfl
        refine Cn.PartR.mk (c:=(Cn.C.mk true closed true [m1] many buf kind len dec 0)) (B:=w.heap.size) (F':=F) (D:=(buf.take len)) (dn:=true) (T:=[]) (er:=0) (meth':=([] : List (List UInt8))) (buf':=(buf.drop len)) hL.out rfl hpD.out hpN.out (fun _ => hpT.out) hpE.out hpB.out rfl (by rw [hes]; exact (Cn.EvsC.one (Cn.evC_end (L:=[]) (Rd.nil _ 2) (On.nil _)))) (by rw [hes]; exact how19.out) hBw.out hlt.out hzw19.out hF.out (fun k h => .inl h) (kpF.out _ hkw19.out) hCw19.out ?_
        intro _; obtain ⟨k1,⟨k2a,k2b,k2c,k2d⟩,k3⟩:=hcut.out.rd hbuf.out
        refine ⟨hmt.out,hmO.out,⟨_,_,k2d,fun e => (by cases e),fun _ => ⟨k2a,k2b,rfl⟩⟩,k1.kp ((k3 _ hL.out.bufF).off fun k h e => h.2 e) hkw19.out,k3 _ hL.out.bufF,fun hd => ?_⟩
        cases hd
       ·obtain ⟨cm2,rfl⟩ : ∃ c,cm = c + 2:=⟨cm - 2,by omega⟩
        obtain ⟨m1,mr,hm1⟩ : ∃ m r,meth = m :: r:=by
         cases hx : meth with
         | nil => rw [hx] at gml; cases gml
         | cons m r => exact ⟨m,r,rfl⟩
        subst hm1; have c0:=hCw18.out.cell 0; have c3:=hCw18.out.cell 3; have cf3:=hCw18.out.frozen 3; go_upto_region 27 with (fail)
        clear c0 c3 cf3; have hs : Kp (· = g) w18 (w18.setCell ⟨g,3,none⟩ (.slice (some ⟨bm,om + 1,none⟩) mr.length (cm2 + 1))):=(Kp.refl (· = g) w18).set_ (g:=g) (fun _ => rfl) 3 (.slice (some ⟨bm,om + 1,none⟩) mr.length (cm2 + 1))
        have hCw19 : Blk (w18.setCell ⟨g,3,none⟩ (.slice (some ⟨bm,om + 1,none⟩) mr.length (cm2 + 1))) g 73 #[.bool true,.bool closed,.bool false,.slice (some ⟨bm,om + 1,none⟩) mr.length (cm2 + 1),.int .i64 (many : Int),.slice (some ⟨b0,ob,none⟩) 0 0,.int .i64 (kind : Int),.int .i64 0,vd,.nilIface]:=(hCw18.out.set_ 3 (.slice (some ⟨bm,om + 1,none⟩) mr.length (cm2 + 1)))
        have hkw19:=hkw18.out.next (fun k _ e => e) hs; have hzw19:=Nat.le_trans hzw18.out hs.size; have hDw19:=hDw18.out.kp (fun k hk e => by have:=(World.ownsRow.lt hDw18.out k hk).1; have:=hgB.out; omega) hs
        have how19:=how18.out.kp (fun k hk e => by have:=(World.ownsRow.lt how18.out k hk).1; have:=hgB.out; omega) hs
        generalize (w18.setCell ⟨g,3,none⟩ (.slice (some ⟨bm,om + 1,none⟩) mr.length (cm2 + 1))) = w19 at *; clear hs; replace hCw19:=Hj hCw19; replace hkw19:=Hj hkw19; replace hzw19:=Hj hzw19; replace hDw19:=Hj hDw19; replace how19:=Hj how19; obtain ⟨bx,ox,ex,t1,t2,t3⟩:=Cn.meth_tail (G:=(· = g)) (F':=F) hmeth.out (by simp) hkw19.out hL.out.methF (fun k h e => (hL.out.methF k h).2 e) (fun k h => h)
        cases ex
        have hmt:=Hj (t2 (by omega)); have hmO:=Hj (t3 (.slice (some ⟨bm,om + 1,none⟩) mr.length (cm2 + 1)) rfl); clear t1 t2 t3; go_wp2; go_ret; have hes : Cn.evs (buf.take len) true [] = [Cn.evEnd []]:=by unfold Cn.evs; rw [if_pos hD0.out]; rfl
        refine Cn.PartR.mk (c:=(Cn.C.mk true closed true (m1 :: mr) many buf kind len dec 0)) (B:=w.heap.size) (F':=F) (D:=(buf.take len)) (dn:=true) (T:=[]) (er:=0) (meth':=mr) (buf':=(buf.drop len)) hL.out rfl hpD.out hpN.out (fun _ => hpT.out) hpE.out hpB.out rfl (by rw [hes]; exact (Cn.EvsC.one (Cn.evC_end (L:=[]) (Rd.nil _ 2) (On.nil _)))) (by rw [hes]; exact how19.out) hBw.out hlt.out hzw19.out hF.out (fun k h => .inl h) (kpF.out _ hkw19.out) hCw19.out ?_
        intro _; obtain ⟨k1,⟨k2a,k2b,k2c,k2d⟩,k3⟩:=hcut.out.rd hbuf.out
        refine ⟨hmt.out,hmO.out,⟨_,_,k2d,fun e => (by cases e),fun _ => ⟨k2a,k2b,rfl⟩⟩,k1.kp ((k3 _ hL.out.bufF).off fun k h e => h.2 e) hkw19.out,k3 _ hL.out.bufF,fun hd => ?_⟩
        cases hd
     ·have gD : (0 : Int) < (len : Int):=by have:=List.length_pos_iff.2 hD0; have:=hDl.out; omega
      replace hD0:=Hj hD0; go_upto_region 21 with (fail)
      go_upto_region 22 with (at_builtin; go_loud (refine push_ev (v:=Value.slice none 0 0) (n:=0) (xs:=[]) (B:=w.heap.size) _ _ rfl rfl rfl (own_nil w16 (w.heap.size) 77 8) rfl (by intro u hu; simp only [List.mem_cons,List.mem_nil_iff,or_false] at hu; rcases hu with rfl | rfl | rfl | rfl | rfl | rfl | rfl | rfl <;> rfl) (by omega) hzw16.out ?_); intro vo0 w17 how17 hgx hat; have hCw17:=Hj (Blk.grown8 (hCw16.out.alloc (.cells #[.int .i64 2,.string ⟨#[]⟩,.string ⟨#[]⟩,.slice none 0 0,.int .i64 0,.slice none 0 0,.slice AD len cD,.slice none 0 0] 77)) hgx (fun e => by cases e)); have hkw17:=Hj ((hkw16.out.alloc (.cells #[.int .i64 2,.string ⟨#[]⟩,.string ⟨#[]⟩,.slice none 0 0,.int .i64 0,.slice none 0 0,.slice AD len cD,.slice none 0 0] 77)).grown hgx (fun k e => by cases e)); have hzw17:=Hj (Nat.le_trans (Nat.le_trans hzw16.out (by rw [alloc_size']; omega)) hgx.size); have hDw17:=Hj (own_kpg ((hDw16.out).alloc (.cells #[.int .i64 2,.string ⟨#[]⟩,.string ⟨#[]⟩,.slice none 0 0,.int .i64 0,.slice none 0 0,.slice AD len cD,.slice none 0 0] 77)) hgx (fun k _ e => by cases e)); clear hgx hat)
      obtain ⟨Ao0,co0,rfl,-,-,-⟩:=id (Rd.own how17)
      replace how17:=Hj how17; go_upto_region 24 with (at_builtin; go_loud (refine push_ev (v:=(.slice Ao0 1 co0)) (n:=1) (xs:=[.int .i64 2,.string ⟨#[]⟩,.string ⟨#[]⟩,.slice none 0 0,.int .i64 0,.slice none 0 0,.slice AD len cD,.slice none 0 0]) (B:=w.heap.size) _ _ rfl rfl rfl how17.out rfl (by intro u hu; simp only [List.mem_cons,List.mem_nil_iff,or_false] at hu; rcases hu with rfl | rfl | rfl | rfl | rfl | rfl | rfl | rfl <;> rfl) (by omega) hzw17.out ?_); intro vo1 w18 how18 hgx hat; have hCw18:=Hj (Blk.grown8 (hCw17.out.alloc (.cells #[.int .i64 3,.string ⟨#[]⟩,.string ⟨#[]⟩,.slice none 0 0,.int .i64 0,.slice none 0 0,.slice none 0 0,.slice none 0 0] 77)) hgx (fun e => by have:=(World.ownsRow.lt how17.out g e).1; have:=hgB.out; omega)); have hkw18:=Hj ((hkw17.out.alloc (.cells #[.int .i64 3,.string ⟨#[]⟩,.string ⟨#[]⟩,.slice none 0 0,.int .i64 0,.slice none 0 0,.slice none 0 0,.slice none 0 0] 77)).grown hgx (fun k e hlt => by have:=(World.ownsRow.lt how17.out k e).1; have:=hBw.out; omega)); have hzw18:=Hj (Nat.le_trans (Nat.le_trans hzw17.out (by rw [alloc_size']; omega)) hgx.size); have hDw18:=Hj (own_kpg ((hDw17.out).alloc (.cells #[.int .i64 3,.string ⟨#[]⟩,.string ⟨#[]⟩,.slice none 0 0,.int .i64 0,.slice none 0 0,.slice none 0 0,.slice none 0 0] 77)) hgx (fun k hk e => (hDw17.out.apart how17.out (by decide) hk) e)); clear hgx hat)
      obtain ⟨Ao1,co1,rfl,-,-,-⟩:=id (Rd.own how18)
      replace how18:=Hj how18; have c2:=hCw18.out.cell 2; have cf2:=hCw18.out.frozen 2; go_upto_region 25 with (fail)
      clear c2 cf2; have hs : Kp (· = g) w18 (w18.setCell ⟨g,2,none⟩ (.bool false)):=(Kp.refl (· = g) w18).set_ (g:=g) (fun _ => rfl) 2 (.bool false)
      have hCw19 : Blk (w18.setCell ⟨g,2,none⟩ (.bool false)) g 73 #[.bool resp,.bool closed,.bool false,.slice Am meth.length cm,.int .i64 (many : Int),.slice (some ⟨b0,ob,none⟩) 0 0,.int .i64 (kind : Int),.int .i64 0,vd,.nilIface]:=(hCw18.out.set_ 2 (.bool false))
      have hkw19:=hkw18.out.next (fun k _ e => e) hs; have hzw19:=Nat.le_trans hzw18.out hs.size; have hDw19:=hDw18.out.kp (fun k hk e => by have:=(World.ownsRow.lt hDw18.out k hk).1; have:=hgB.out; omega) hs
      have how19:=how18.out.kp (fun k hk e => by have:=(World.ownsRow.lt how18.out k hk).1; have:=hgB.out; omega) hs
      generalize (w18.setCell ⟨g,2,none⟩ (.bool false)) = w19 at *; clear hs; replace hCw19:=Hj hCw19; replace hkw19:=Hj hkw19; replace hzw19:=Hj hzw19; replace hDw19:=Hj hDw19; replace how19:=Hj how19; cases resp with
      | false =>
       have c0:=hCw19.out.cell 0; go_wp2; go_ret; have hes : Cn.evs (buf.take len) true [] = [Cn.evData (buf.take len)] ++ [Cn.evEnd []]:=by unfold Cn.evs; rw [if_neg hD0.out]; rfl
       refine Cn.PartR.mk (c:=(Cn.C.mk false closed true meth many buf kind len dec 0)) (B:=w.heap.size) (F':=F) (D:=(buf.take len)) (dn:=true) (T:=[]) (er:=0) (meth':=meth) (buf':=(buf.drop len)) hL.out rfl hpD.out hpN.out (fun _ => hpT.out) hpE.out hpB.out rfl (by rw [hes]; exact ((Cn.EvsC.one (Cn.evC_data (Rd.own (Cn.own_len hDw19.out hDl.out)) (On.own hDw19.out))).app (Cn.EvsC.one (Cn.evC_end (L:=[]) (Rd.nil _ 2) (On.nil _))))) (by rw [hes]; exact how19.out) hBw.out hlt.out hzw19.out hF.out (fun k h => .inl h) (kpF.out _ hkw19.out) hCw19.out ?_
       intro _; obtain ⟨k1,⟨k2a,k2b,k2c,k2d⟩,k3⟩:=hcut.out.rd hbuf.out
       refine ⟨hmeth.out.kp (hL.out.methF.off fun k h e => h.2 e) hkw19.out,hL.out.methF,⟨_,_,k2d,fun e => (by cases e),fun _ => ⟨k2a,k2b,rfl⟩⟩,k1.kp ((k3 _ hL.out.bufF).off fun k h e => h.2 e) hkw19.out,k3 _ hL.out.bufF,fun hd => ?_⟩
       cases hd
      | true =>
       obtain ⟨bm,om,hAm⟩ : ∃ b o,Am = some ⟨b,o,none⟩:=by
        obtain ⟨Ax,cx,ex,-,-,rx⟩:=id hmeth.out; cases ex
        obtain ⟨b,o,e,-⟩:=rx (List.length_pos_iff.2 (hone.out rfl))
        exact ⟨b,o,e⟩
       subst hAm; have gml : 0 < meth.length:=List.length_pos_iff.2 (hone.out rfl)
       by_cases hcm1 : cm = 1
       ·obtain rfl:=hcm1
        obtain ⟨m1,hm1⟩ : ∃ m,meth = [m]:=List.length_eq_one_iff.1 (by omega)
        subst hm1; have c0:=hCw19.out.cell 0; have c3:=hCw19.out.cell 3; have cf3:=hCw19.out.frozen 3; go_upto_region 27 with (fail)
        clear c0 c3 cf3; have hs : Kp (· = g) w19 (w19.setCell ⟨g,3,none⟩ (.slice (some ⟨bm,om,none⟩) 0 0)):=(Kp.refl (· = g) w19).set_ (g:=g) (fun _ => rfl) 3 (.slice (some ⟨bm,om,none⟩) 0 0)
        have hCw20 : Blk (w19.setCell ⟨g,3,none⟩ (.slice (some ⟨bm,om,none⟩) 0 0)) g 73 #[.bool true,.bool closed,.bool false,.slice (some ⟨bm,om,none⟩) 0 0,.int .i64 (many : Int),.slice (some ⟨b0,ob,none⟩) 0 0,.int .i64 (kind : Int),.int .i64 0,vd,.nilIface]:=(hCw19.out.set_ 3 (.slice (some ⟨bm,om,none⟩) 0 0))
        have hkw20:=hkw19.out.next (fun k _ e => e) hs; have hzw20:=Nat.le_trans hzw19.out hs.size; have hDw20:=hDw19.out.kp (fun k hk e => by have:=(World.ownsRow.lt hDw19.out k hk).1; have:=hgB.out; omega) hs
        have how20:=how19.out.kp (fun k hk e => by have:=(World.ownsRow.lt how19.out k hk).1; have:=hgB.out; omega) hs
        generalize (w19.setCell ⟨g,3,none⟩ (.slice (some ⟨bm,om,none⟩) 0 0)) = w20 at *; clear hs; replace hCw20:=Hj hCw20; replace hkw20:=Hj hkw20; replace hzw20:=Hj hzw20; replace hDw20:=Hj hDw20; replace how20:=Hj how20; obtain ⟨bx,ox,ex,t1,t2,t3⟩:=Cn.meth_tail (G:=(· = g)) (F':=F) hmeth.out (by simp) hkw20.out hL.out.methF (fun k h e => (hL.out.methF k h).2 e) (fun k h => h)
        cases ex
        have hmt:=Hj (t1 rfl); have hmO:=Hj (t3 (.slice (some ⟨bm,om,none⟩) 0 0) rfl); clear t1 t2 t3; go_wp2; go_ret; have hes : Cn.evs (buf.take len) true [] = [Cn.evData (buf.take len)] ++ [Cn.evEnd []]:=by unfold Cn.evs; rw [if_neg hD0.out]; rfl
        refine Cn.PartR.mk (c:=(Cn.C.mk true closed true [m1] many buf kind len dec 0)) (B:=w.heap.size) (F':=F) (D:=(buf.take len)) (dn:=true) (T:=[]) (er:=0) (meth':=([] : List (List UInt8))) (buf':=(buf.drop len)) hL.out rfl hpD.out hpN.out (fun _ => hpT.out) hpE.out hpB.out rfl (by rw [hes]; exact ((Cn.EvsC.one (Cn.evC_data (Rd.own (Cn.own_len hDw20.out hDl.out)) (On.own hDw20.out))).app (Cn.EvsC.one (Cn.evC_end (L:=[]) (Rd.nil _ 2) (On.nil _))))) (by rw [hes]; exact how20.out) hBw.out hlt.out hzw20.out hF.out (fun k h => .inl h) (kpF.out _ hkw20.out) hCw20.out ?_
        intro _; obtain ⟨k1,⟨k2a,k2b,k2c,k2d⟩,k3⟩:=hcut.out.rd hbuf.out
        refine ⟨hmt.out,hmO.out,⟨_,_,k2d,fun e => (by cases e),fun _ => ⟨k2a,k2b,rfl⟩⟩,k1.kp ((k3 _ hL.out.bufF).off fun k h e => h.2 e) hkw20.out,k3 _ hL.out.bufF,fun hd => ?_⟩
        cases hd
       ·obtain ⟨cm2,rfl⟩ : ∃ c,cm = c + 2:=⟨cm - 2,by omega⟩
        obtain ⟨m1,mr,hm1⟩ : ∃ m r,meth = m :: r:=by
         cases hx : meth with
         | nil => rw [hx] at gml; cases gml
         | cons m r => exact ⟨m,r,rfl⟩
        subst hm1; have c0:=hCw19.out.cell 0; have c3:=hCw19.out.cell 3; have cf3:=hCw19.out.frozen 3; go_upto_region 27 with (fail)
        clear c0 c3 cf3; have hs : Kp (· = g) w19 (w19.setCell ⟨g,3,none⟩ (.slice (some ⟨bm,om + 1,none⟩) mr.length (cm2 + 1))):=(Kp.refl (· = g) w19).set_ (g:=g) (fun _ => rfl) 3 (.slice (some ⟨bm,om + 1,none⟩) mr.length (cm2 + 1))
        have hCw20 : Blk (w19.setCell ⟨g,3,none⟩ (.slice (some ⟨bm,om + 1,none⟩) mr.length (cm2 + 1))) g 73 #[.bool true,.bool closed,.bool false,.slice (some ⟨bm,om + 1,none⟩) mr.length (cm2 + 1),.int .i64 (many : Int),.slice (some ⟨b0,ob,none⟩) 0 0,.int .i64 (kind : Int),.int .i64 0,vd,.nilIface]:=(hCw19.out.set_ 3 (.slice (some ⟨bm,om + 1,none⟩) mr.length (cm2 + 1)))
        have hkw20:=hkw19.out.next (fun k _ e => e) hs; have hzw20:=Nat.le_trans hzw19.out hs.size; have hDw20:=hDw19.out.kp (fun k hk e => by have:=(World.ownsRow.lt hDw19.out k hk).1; have:=hgB.out; omega) hs
        have how20:=how19.out.kp (fun k hk e => by have:=(World.ownsRow.lt how19.out k hk).1; have:=hgB.out; omega) hs
        generalize (w19.setCell ⟨g,3,none⟩ (.slice (some ⟨bm,om + 1,none⟩) mr.length (cm2 + 1))) = w20 at *; clear hs; replace hCw20:=Hj hCw20; replace hkw20:=Hj hkw20; replace hzw20:=Hj hzw20; replace hDw20:=Hj hDw20; replace how20:=Hj how20; obtain ⟨bx,ox,ex,t1,t2,t3⟩:=Cn.meth_tail (G:=(· = g)) (F':=F) hmeth.out (by simp) hkw20.out hL.out.methF (fun k h e => (hL.out.methF k h).2 e) (fun k h => h)
        cases ex
        have hmt:=Hj (t2 (by omega)); have hmO:=Hj (t3 (.slice (some ⟨bm,om + 1,none⟩) mr.length (cm2 + 1)) rfl); clear t1 t2 t3; go_wp2; go_ret; have hes : Cn.evs (buf.take len) true [] = [Cn.evData (buf.take len)] ++ [Cn.evEnd []]:=by unfold Cn.evs; rw [if_neg hD0.out]; rfl
        refine Cn.PartR.mk (c:=(Cn.C.mk true closed true (m1 :: mr) many buf kind len dec 0)) (B:=w.heap.size) (F':=F) (D:=(buf.take len)) (dn:=true) (T:=[]) (er:=0) (meth':=mr) (buf':=(buf.drop len)) hL.out rfl hpD.out hpN.out (fun _ => hpT.out) hpE.out hpB.out rfl (by rw [hes]; exact ((Cn.EvsC.one (Cn.evC_data (Rd.own (Cn.own_len hDw20.out hDl.out)) (On.own hDw20.out))).app (Cn.EvsC.one (Cn.evC_end (L:=[]) (Rd.nil _ 2) (On.nil _))))) (by rw [hes]; exact how20.out) hBw.out hlt.out hzw20.out hF.out (fun k h => .inl h) (kpF.out _ hkw20.out) hCw20.out ?_
        intro _; obtain ⟨k1,⟨k2a,k2b,k2c,k2d⟩,k3⟩:=hcut.out.rd hbuf.out
        refine ⟨hmt.out,hmO.out,⟨_,_,k2d,fun e => (by cases e),fun _ => ⟨k2a,k2b,rfl⟩⟩,k1.kp ((k3 _ hL.out.bufF).off fun k h e => h.2 e) hkw20.out,k3 _ hL.out.bufF,fun hd => ?_⟩
        cases hd
    ·have hlt2 : len < cap:=by omega
     have hcut : Hid (Cn.CutB (some ⟨b0,ob,none⟩) buf.length cap len (.slice (some ⟨b0,ob + len,none⟩) (buf.length - len) (cap - len))):=⟨b0,ob,rfl,hNl,hcap,.inl ⟨hlt2,by rfl⟩⟩
     have c5:=hCw15.out.cell 5; have c7:=hCw15.out.cell 7; have cf5:=hCw15.out.frozen 5; have cf7:=hCw15.out.frozen 7; go_upto_region 9 with (fail)
     clear c5 c7 cf5 cf7; have hs : Kp (· = g) w15 ((w15.setCell ⟨g,5,none⟩ (.slice (some ⟨b0,ob + len,none⟩) (buf.length - len) (cap - len))).setCell ⟨g,7,none⟩ (.int .i64 0)):=((Kp.refl (· = g) w15).set_ (g:=g) (fun _ => rfl) 5 (.slice (some ⟨b0,ob + len,none⟩) (buf.length - len) (cap - len))).set_ (g:=g) (fun _ => rfl) 7 (.int .i64 0)
     have hCw16 : Blk ((w15.setCell ⟨g,5,none⟩ (.slice (some ⟨b0,ob + len,none⟩) (buf.length - len) (cap - len))).setCell ⟨g,7,none⟩ (.int .i64 0)) g 73 #[.bool resp,.bool closed,.bool true,.slice Am meth.length cm,.int .i64 (many : Int),.slice (some ⟨b0,ob + len,none⟩) (buf.length - len) (cap - len),.int .i64 (kind : Int),.int .i64 0,vd,.nilIface]:=((hCw15.out.set_ 5 (.slice (some ⟨b0,ob + len,none⟩) (buf.length - len) (cap - len))).set_ 7 (.int .i64 0))
     have hkw16:=hkw15.out.next (fun k _ e => e) hs; have hzw16:=Nat.le_trans hzw15.out hs.size; have hDw16:=hDw15.out.kp (fun k hk e => by have:=(World.ownsRow.lt hDw15.out k hk).1; have:=hgB.out; omega) hs
     generalize ((w15.setCell ⟨g,5,none⟩ (.slice (some ⟨b0,ob + len,none⟩) (buf.length - len) (cap - len))).setCell ⟨g,7,none⟩ (.int .i64 0)) = w16 at *; clear hs; replace hCw16:=Hj hCw16; replace hkw16:=Hj hkw16; replace hzw16:=Hj hzw16; replace hDw16:=Hj hDw16; have c7:=hCw16.out.cell 7; go_upto_region 20 with (fail)
     clear c7; by_cases hD0 : (buf.take len) = []
     ·have gD : ¬ (0 : Int) < (len : Int):=by rw [show len = 0 from by rw [← hDl.out,hD0]; rfl]; decide
      have gD2 : len = 0:=by omega
      replace gD2:=Hj gD2; replace hD0:=Hj hD0; skip
      go_upto_region 24 with (at_builtin; go_loud (refine push_ev (v:=Value.slice none 0 0) (n:=0) (xs:=[]) (B:=w.heap.size) _ _ rfl rfl rfl (own_nil w16 (w.heap.size) 77 8) rfl (by intro u hu; simp only [List.mem_cons,List.mem_nil_iff,or_false] at hu; rcases hu with rfl | rfl | rfl | rfl | rfl | rfl | rfl | rfl <;> rfl) (by omega) hzw16.out ?_); intro vo0 w17 how17 hgx hat; have hCw17:=Hj (Blk.grown8 (hCw16.out.alloc (.cells #[.int .i64 3,.string ⟨#[]⟩,.string ⟨#[]⟩,.slice none 0 0,.int .i64 0,.slice none 0 0,.slice none 0 0,.slice none 0 0] 77)) hgx (fun e => by cases e)); have hkw17:=Hj ((hkw16.out.alloc (.cells #[.int .i64 3,.string ⟨#[]⟩,.string ⟨#[]⟩,.slice none 0 0,.int .i64 0,.slice none 0 0,.slice none 0 0,.slice none 0 0] 77)).grown hgx (fun k e => by cases e)); have hzw17:=Hj (Nat.le_trans (Nat.le_trans hzw16.out (by rw [alloc_size']; omega)) hgx.size); have hDw17:=Hj (own_kpg ((hDw16.out).alloc (.cells #[.int .i64 3,.string ⟨#[]⟩,.string ⟨#[]⟩,.slice none 0 0,.int .i64 0,.slice none 0 0,.slice none 0 0,.slice none 0 0] 77)) hgx (fun k _ e => by cases e)); clear hgx hat)
      obtain ⟨Ao0,co0,rfl,-,-,-⟩:=id (Rd.own how17)
      replace how17:=Hj how17; have c2:=hCw17.out.cell 2; have cf2:=hCw17.out.frozen 2; go_upto_region 25 with (fail)
      clear c2 cf2; have hs : Kp (· = g) w17 (w17.setCell ⟨g,2,none⟩ (.bool false)):=(Kp.refl (· = g) w17).set_ (g:=g) (fun _ => rfl) 2 (.bool false)
      have hCw18 : Blk (w17.setCell ⟨g,2,none⟩ (.bool false)) g 73 #[.bool resp,.bool closed,.bool false,.slice Am meth.length cm,.int .i64 (many : Int),.slice (some ⟨b0,ob + len,none⟩) (buf.length - len) (cap - len),.int .i64 (kind : Int),.int .i64 0,vd,.nilIface]:=(hCw17.out.set_ 2 (.bool false))
      have hkw18:=hkw17.out.next (fun k _ e => e) hs; have hzw18:=Nat.le_trans hzw17.out hs.size; have hDw18:=hDw17.out.kp (fun k hk e => by have:=(World.ownsRow.lt hDw17.out k hk).1; have:=hgB.out; omega) hs
      have how18:=how17.out.kp (fun k hk e => by have:=(World.ownsRow.lt how17.out k hk).1; have:=hgB.out; omega) hs
      generalize (w17.setCell ⟨g,2,none⟩ (.bool false)) = w18 at *; clear hs; replace hCw18:=Hj hCw18; replace hkw18:=Hj hkw18; replace hzw18:=Hj hzw18; replace hDw18:=Hj hDw18; replace how18:=Hj how18; cases resp with
      | false =>
       have c0:=hCw18.out.cell 0; go_wp2; go_ret; have hes : Cn.evs (buf.take len) true [] = [Cn.evEnd []]:=by unfold Cn.evs; rw [if_pos hD0.out]; rfl
       refine Cn.PartR.mk (c:=(Cn.C.mk false closed true meth many buf kind len dec 0)) (B:=w.heap.size) (F':=F) (D:=(buf.take len)) (dn:=true) (T:=[]) (er:=0) (meth':=meth) (buf':=(buf.drop len)) hL.out rfl hpD.out hpN.out (fun _ => hpT.out) hpE.out hpB.out rfl (by rw [hes]; exact (Cn.EvsC.one (Cn.evC_end (L:=[]) (Rd.nil _ 2) (On.nil _)))) (by rw [hes]; exact how18.out) hBw.out hlt.out hzw18.out hF.out (fun k h => .inl h) (kpF.out _ hkw18.out) hCw18.out ?_
       intro _; obtain ⟨k1,⟨k2a,k2b,k2c,k2d⟩,k3⟩:=hcut.out.rd hbuf.out
       refine ⟨hmeth.out.kp (hL.out.methF.off fun k h e => h.2 e) hkw18.out,hL.out.methF,⟨_,_,k2d,fun e => (by cases e),fun _ => ⟨k2a,k2b,rfl⟩⟩,k1.kp ((k3 _ hL.out.bufF).off fun k h e => h.2 e) hkw18.out,k3 _ hL.out.bufF,fun hd => ?_⟩
       cases hd
      | true =>
       obtain ⟨bm,om,hAm⟩ : ∃ b o,Am = some ⟨b,o,none⟩:=by
        obtain ⟨Ax,cx,ex,-,-,rx⟩:=id hmeth.out; cases ex
        obtain ⟨b,o,e,-⟩:=rx (List.length_pos_iff.2 (hone.out rfl))
        exact ⟨b,o,e⟩
       subst hAm; have gml : 0 < meth.length:=List.length_pos_iff.2 (hone.out rfl)
       by_cases hcm1 : cm = 1
       ·obtain rfl:=hcm1
        obtain ⟨m1,hm1⟩ : ∃ m,meth = [m]:=List.length_eq_one_iff.1 (by omega)
        subst hm1; have c0:=hCw18.out.cell 0; have c3:=hCw18.out.cell 3; have cf3:=hCw18.out.frozen 3; go_upto_region 27 with (fail)
        clear c0 c3 cf3; have hs : Kp (· = g) w18 (w18.setCell ⟨g,3,none⟩ (.slice (some ⟨bm,om,none⟩) 0 0)):=(Kp.refl (· = g) w18).set_ (g:=g) (fun _ => rfl) 3 (.slice (some ⟨bm,om,none⟩) 0 0)
        have hCw19 : Blk (w18.setCell ⟨g,3,none⟩ (.slice (some ⟨bm,om,none⟩) 0 0)) g 73 #[.bool true,.bool closed,.bool false,.slice (some ⟨bm,om,none⟩) 0 0,.int .i64 (many : Int),.slice (some ⟨b0,ob + len,none⟩) (buf.length - len) (cap - len),.int .i64 (kind : Int),.int .i64 0,vd,.nilIface]:=(hCw18.out.set_ 3 (.slice (some ⟨bm,om,none⟩) 0 0))
        have hkw19:=hkw18.out.next (fun k _ e => e) hs; have hzw19:=Nat.le_trans hzw18.out hs.size; have hDw19:=hDw18.out.kp (fun k hk e => by have:=(World.ownsRow.lt hDw18.out k hk).1; have:=hgB.out; omega) hs
        have how19:=how18.out.kp (fun k hk e => by have:=(World.ownsRow.lt how18.out k hk).1; have:=hgB.out; omega) hs
        generalize (w18.setCell ⟨g,3,none⟩ (.slice (some ⟨bm,om,none⟩) 0 0)) = w19 at *; clear hs; replace hCw19:=Hj hCw19; replace hkw19:=Hj hkw19; replace hzw19:=Hj hzw19; replace hDw19:=Hj hDw19; replace how19:=Hj how19; obtain ⟨bx,ox,ex,t1,t2,t3⟩:=Cn.meth_tail (G:=(· = g)) (F':=F) hmeth.out (by simp) hkw19.out hL.out.methF (fun k h e => (hL.out.methF k h).2 e) (fun k h => h)
        cases ex
        have hmt:=Hj (t1 rfl); have hmO:=Hj (t3 (.slice (some ⟨bm,om,none⟩) 0 0) rfl); clear t1 t2 t3; go_wp2; go_ret; have hes : Cn.evs (buf.take len) true [] = [Cn.evEnd []]:=by unfold Cn.evs; rw [if_pos hD0.out]; rfl
        refine Cn.PartR.mk (c:=(Cn.C.mk true closed true [m1] many buf kind len dec 0)) (B:=w.heap.size) (F':=F) (D:=(buf.take len)) (dn:=true) (T:=[]) (er:=0) (meth':=([] : List (List UInt8))) (buf':=(buf.drop len)) hL.out rfl hpD.out hpN.out (fun _ => hpT.out) hpE.out hpB.out rfl (by rw [hes]; exact (Cn.EvsC.one (Cn.evC_end (L:=[]) (Rd.nil _ 2) (On.nil _)))) (by rw [hes]; exact how19.out) hBw.out hlt.out hzw19.out hF.out (fun k h => .inl h) (kpF.out _ hkw19.out) hCw19.out ?_
        intro _; obtain ⟨k1,⟨k2a,k2b,k2c,k2d⟩,k3⟩:=hcut.out.rd hbuf.out
        refine ⟨hmt.out,hmO.out,⟨_,_,k2d,fun e => (by cases e),fun _ => ⟨k2a,k2b,rfl⟩⟩,k1.kp ((k3 _ hL.out.bufF).off fun k h e => h.2 e) hkw19.out,k3 _ hL.out.bufF,fun hd => ?_⟩
        cases hd
       ·obtain ⟨cm2,rfl⟩ : ∃ c,cm = c + 2:=⟨cm - 2,by omega⟩
        obtain ⟨m1,mr,hm1⟩ : ∃ m r,meth = m :: r:=by
         cases hx : meth with
         | nil => rw [hx] at gml; cases gml
         | cons m r => exact ⟨m,r,rfl⟩
        subst hm1; have c0:=hCw18.out.cell 0; have c3:=hCw18.out.cell 3; have cf3:=hCw18.out.frozen 3; go_upto_region 27 with (fail)
        clear c0 c3 cf3; have hs : Kp (· = g) w18 (w18.setCell ⟨g,3,none⟩ (.slice (some ⟨bm,om + 1,none⟩) mr.length (cm2 + 1))):=(Kp.refl (· = g) w18).set_ (g:=g) (fun _ => rfl) 3 (.slice (some ⟨bm,om + 1,none⟩) mr.length (cm2 + 1))
        have hCw19 : Blk (w18.setCell ⟨g,3,none⟩ (.slice (some ⟨bm,om + 1,none⟩) mr.length (cm2 + 1))) g 73 #[.bool true,.bool closed,.bool false,.slice (some ⟨bm,om + 1,none⟩) mr.length (cm2 + 1),.int .i64 (many : Int),.slice (some ⟨b0,ob + len,none⟩) (buf.length - len) (cap - len),.int .i64 (kind : Int),.int .i64 0,vd,.nilIface]:=(hCw18.out.set_ 3 (.slice (some ⟨bm,om + 1,none⟩) mr.length (cm2 + 1)))
        have hkw19:=hkw18.out.next (fun k _ e => e) hs; have hzw19:=Nat.le_trans hzw18.out hs.size; have hDw19:=hDw18.out.kp (fun k hk e => by have:=(World.ownsRow.lt hDw18.out k hk).1; have:=hgB.out; omega) hs
        have how19:=how18.out.kp (fun k hk e => by have:=(World.ownsRow.lt how18.out k hk).1; have:=hgB.out; omega) hs
        generalize (w18.setCell ⟨g,3,none⟩ (.slice (some ⟨bm,om + 1,none⟩) mr.length (cm2 + 1))) = w19 at *; clear hs; replace hCw19:=Hj hCw19; replace hkw19:=Hj hkw19; replace hzw19:=Hj hzw19; replace hDw19:=Hj hDw19; replace how19:=Hj how19; obtain ⟨bx,ox,ex,t1,t2,t3⟩:=Cn.meth_tail (G:=(· = g)) (F':=F) hmeth.out (by simp) hkw19.out hL.out.methF (fun k h e => (hL.out.methF k h).2 e) (fun k h => h)
        cases ex
        have hmt:=Hj (t2 (by omega)); have hmO:=Hj (t3 (.slice (some ⟨bm,om + 1,none⟩) mr.length (cm2 + 1)) rfl); clear t1 t2 t3; go_wp2; go_ret; have hes : Cn.evs (buf.take len) true [] = [Cn.evEnd []]:=by unfold Cn.evs; rw [if_pos hD0.out]; rfl
        refine Cn.PartR.mk (c:=(Cn.C.mk true closed true (m1 :: mr) many buf kind len dec 0)) (B:=w.heap.size) (F':=F) (D:=(buf.take len)) (dn:=true) (T:=[]) (er:=0) (meth':=mr) (buf':=(buf.drop len)) hL.out rfl hpD.out hpN.out (fun _ => hpT.out) hpE.out hpB.out rfl (by rw [hes]; exact (Cn.EvsC.one (Cn.evC_end (L:=[]) (Rd.nil _ 2) (On.nil _)))) (by rw [hes]; exact how19.out) hBw.out hlt.out hzw19.out hF.out (fun k h => .inl h) (kpF.out _ hkw19.out) hCw19.out ?_
        intro _; obtain ⟨k1,⟨k2a,k2b,k2c,k2d⟩,k3⟩:=hcut.out.rd hbuf.out
        refine ⟨hmt.out,hmO.out,⟨_,_,k2d,fun e => (by cases e),fun _ => ⟨k2a,k2b,rfl⟩⟩,k1.kp ((k3 _ hL.out.bufF).off fun k h e => h.2 e) hkw19.out,k3 _ hL.out.bufF,fun hd => ?_⟩
        cases hd
     ·have gD : (0 : Int) < (len : Int):=by have:=List.length_pos_iff.2 hD0; have:=hDl.out; omega
      replace hD0:=Hj hD0; go_upto_region 21 with (fail)
      go_upto_region 22 with (at_builtin; go_loud (refine push_ev (v:=Value.slice none 0 0) (n:=0) (xs:=[]) (B:=w.heap.size) _ _ rfl rfl rfl (own_nil w16 (w.heap.size) 77 8) rfl (by intro u hu; simp only [List.mem_cons,List.mem_nil_iff,or_false] at hu; rcases hu with rfl | rfl | rfl | rfl | rfl | rfl | rfl | rfl <;> rfl) (by omega) hzw16.out ?_); intro vo0 w17 how17 hgx hat; have hCw17:=Hj (Blk.grown8 (hCw16.out.alloc (.cells #[.int .i64 2,.string ⟨#[]⟩,.string ⟨#[]⟩,.slice none 0 0,.int .i64 0,.slice none 0 0,.slice AD len cD,.slice none 0 0] 77)) hgx (fun e => by cases e)); have hkw17:=Hj ((hkw16.out.alloc (.cells #[.int .i64 2,.string ⟨#[]⟩,.string ⟨#[]⟩,.slice none 0 0,.int .i64 0,.slice none 0 0,.slice AD len cD,.slice none 0 0] 77)).grown hgx (fun k e => by cases e)); have hzw17:=Hj (Nat.le_trans (Nat.le_trans hzw16.out (by rw [alloc_size']; omega)) hgx.size); have hDw17:=Hj (own_kpg ((hDw16.out).alloc (.cells #[.int .i64 2,.string ⟨#[]⟩,.string ⟨#[]⟩,.slice none 0 0,.int .i64 0,.slice none 0 0,.slice AD len cD,.slice none 0 0] 77)) hgx (fun k _ e => by cases e)); clear hgx hat)
      obtain ⟨Ao0,co0,rfl,-,-,-⟩:=id (Rd.own how17)
      replace how17:=Hj how17; go_upto_region 24 with (at_builtin; go_loud (refine push_ev (v:=(.slice Ao0 1 co0)) (n:=1) (xs:=[.int .i64 2,.string ⟨#[]⟩,.string ⟨#[]⟩,.slice none 0 0,.int .i64 0,.slice none 0 0,.slice AD len cD,.slice none 0 0]) (B:=w.heap.size) _ _ rfl rfl rfl how17.out rfl (by intro u hu; simp only [List.mem_cons,List.mem_nil_iff,or_false] at hu; rcases hu with rfl | rfl | rfl | rfl | rfl | rfl | rfl | rfl <;> rfl) (by omega) hzw17.out ?_); intro vo1 w18 how18 hgx hat; have hCw18:=Hj (Blk.grown8 (hCw17.out.alloc (.cells #[.int .i64 3,.string ⟨#[]⟩,.string ⟨#[]⟩,.slice none 0 0,.int .i64 0,.slice none 0 0,.slice none 0 0,.slice none 0 0] 77)) hgx (fun e => by have:=(World.ownsRow.lt how17.out g e).1; have:=hgB.out; omega)); have hkw18:=Hj ((hkw17.out.alloc (.cells #[.int .i64 3,.string ⟨#[]⟩,.string ⟨#[]⟩,.slice none 0 0,.int .i64 0,.slice none 0 0,.slice none 0 0,.slice none 0 0] 77)).grown hgx (fun k e hlt => by have:=(World.ownsRow.lt how17.out k e).1; have:=hBw.out; omega)); have hzw18:=Hj (Nat.le_trans (Nat.le_trans hzw17.out (by rw [alloc_size']; omega)) hgx.size); have hDw18:=Hj (own_kpg ((hDw17.out).alloc (.cells #[.int .i64 3,.string ⟨#[]⟩,.string ⟨#[]⟩,.slice none 0 0,.int .i64 0,.slice none 0 0,.slice none 0 0,.slice none 0 0] 77)) hgx (fun k hk e => (hDw17.out.apart how17.out (by decide) hk) e)); clear hgx hat)
      obtain ⟨Ao1,co1,rfl,-,-,-⟩:=id (Rd.own how18)
      replace how18:=Hj how18; have c2:=hCw18.out.cell 2; have cf2:=hCw18.out.frozen 2; go_upto_region 25 with (fail)
      clear c2 cf2; have hs : Kp (· = g) w18 (w18.setCell ⟨g,2,none⟩ (.bool false)):=(Kp.refl (· = g) w18).set_ (g:=g) (fun _ => rfl) 2 (.bool false)
      have hCw19 : Blk (w18.setCell ⟨g,2,none⟩ (.bool false)) g 73 #[.bool resp,.bool closed,.bool false,.slice Am meth.length cm,.int .i64 (many : Int),.slice (some ⟨b0,ob + len,none⟩) (buf.length - len) (cap - len),.int .i64 (kind : Int),.int .i64 0,vd,.nilIface]:=(hCw18.out.set_ 2 (.bool false))
      have hkw19:=hkw18.out.next (fun k _ e => e) hs; have hzw19:=Nat.le_trans hzw18.out hs.size; have hDw19:=hDw18.out.kp (fun k hk e => by have:=(World.ownsRow.lt hDw18.out k hk).1; have:=hgB.out; omega) hs
      have how19:=how18.out.kp (fun k hk e => by have:=(World.ownsRow.lt how18.out k hk).1; have:=hgB.out; omega) hs
      generalize (w18.setCell ⟨g,2,none⟩ (.bool false)) = w19 at *; clear hs; replace hCw19:=Hj hCw19; replace hkw19:=Hj hkw19; replace hzw19:=Hj hzw19; replace hDw19:=Hj hDw19; replace how19:=Hj how19; cases resp with
      | false =>
       have c0:=hCw19.out.cell 0; go_wp2; go_ret; have hes : Cn.evs (buf.take len) true [] = [Cn.evData (buf.take len)] ++ [Cn.evEnd []]:=by unfold Cn.evs; rw [if_neg hD0.out]; rfl
       refine Cn.PartR.mk (c:=(Cn.C.mk false closed true meth many buf kind len dec 0)) (B:=w.heap.size) (F':=F) (D:=(buf.take len)) (dn:=true) (T:=[]) (er:=0) (meth':=meth) (buf':=(buf.drop len)) hL.out rfl hpD.out hpN.out (fun _ => hpT.out) hpE.out hpB.out rfl (by rw [hes]; exact ((Cn.EvsC.one (Cn.evC_data (Rd.own (Cn.own_len hDw19.out hDl.out)) (On.own hDw19.out))).app (Cn.EvsC.one (Cn.evC_end (L:=[]) (Rd.nil _ 2) (On.nil _))))) (by rw [hes]; exact how19.out) hBw.out hlt.out hzw19.out hF.out (fun k h => .inl h) (kpF.out _ hkw19.out) hCw19.out ?_
       intro _; obtain ⟨k1,⟨k2a,k2b,k2c,k2d⟩,k3⟩:=hcut.out.rd hbuf.out
       refine ⟨hmeth.out.kp (hL.out.methF.off fun k h e => h.2 e) hkw19.out,hL.out.methF,⟨_,_,k2d,fun e => (by cases e),fun _ => ⟨k2a,k2b,rfl⟩⟩,k1.kp ((k3 _ hL.out.bufF).off fun k h e => h.2 e) hkw19.out,k3 _ hL.out.bufF,fun hd => ?_⟩
       cases hd
      | true =>
       obtain ⟨bm,om,hAm⟩ : ∃ b o,Am = some ⟨b,o,none⟩:=by
        obtain ⟨Ax,cx,ex,-,-,rx⟩:=id hmeth.out; cases ex
        obtain ⟨b,o,e,-⟩:=rx (List.length_pos_iff.2 (hone.out rfl))
        exact ⟨b,o,e⟩
       subst hAm; have gml : 0 < meth.length:=List.length_pos_iff.2 (hone.out rfl)
       by_cases hcm1 : cm = 1
       ·obtain rfl:=hcm1
        obtain ⟨m1,hm1⟩ : ∃ m,meth = [m]:=List.length_eq_one_iff.1 (by omega)
        subst hm1; have c0:=hCw19.out.cell 0; have c3:=hCw19.out.cell 3; have cf3:=hCw19.out.frozen 3; go_upto_region 27 with (fail)
        clear c0 c3 cf3; have hs : Kp (· = g) w19 (w19.setCell ⟨g,3,none⟩ (.slice (some ⟨bm,om,none⟩) 0 0)):=(Kp.refl (· = g) w19).set_ (g:=g) (fun _ => rfl) 3 (.slice (some ⟨bm,om,none⟩) 0 0)
        have hCw20 : Blk (w19.setCell ⟨g,3,none⟩ (.slice (some ⟨bm,om,none⟩) 0 0)) g 73 #[.bool true,.bool closed,.bool false,.slice (some ⟨bm,om,none⟩) 0 0,.int .i64 (many : Int),.slice (some ⟨b0,ob + len,none⟩) (buf.length - len) (cap - len),.int .i64 (kind : Int),.int .i64 0,vd,.nilIface]:=(hCw19.out.set_ 3 (.slice (some ⟨bm,om,none⟩) 0 0))
        have hkw20:=hkw19.out.next (fun k _ e => e) hs; have hzw20:=Nat.le_trans hzw19.out hs.size; have hDw20:=hDw19.out.kp (fun k hk e => by have:=(World.ownsRow.lt hDw19.out k hk).1; have:=hgB.out; omega) hs
        have how20:=how19.out.kp (fun k hk e => by have:=(World.ownsRow.lt how19.out k hk).1; have:=hgB.out; omega) hs
        generalize (w19.setCell ⟨g,3,none⟩ (.slice (some ⟨bm,om,none⟩) 0 0)) = w20 at *; clear hs; replace hCw20:=Hj hCw20; replace hkw20:=Hj hkw20; replace hzw20:=Hj hzw20; replace hDw20:=Hj hDw20; replace how20:=Hj how20; obtain ⟨bx,ox,ex,t1,t2,t3⟩:=Cn.meth_tail (G:=(· = g)) (F':=F) hmeth.out (by simp) hkw20.out hL.out.methF (fun k h e => (hL.out.methF k h).2 e) (fun k h => h)
        cases ex
        have hmt:=Hj (t1 rfl); have hmO:=Hj (t3 (.slice (some ⟨bm,om,none⟩) 0 0) rfl); clear t1 t2 t3; go_wp2; go_ret; have hes : Cn.evs (buf.take len) true [] = [Cn.evData (buf.take len)] ++ [Cn.evEnd []]:=by unfold Cn.evs; rw [if_neg hD0.out]; rfl
        refine Cn.PartR.mk (c:=(Cn.C.mk true closed true [m1] many buf kind len dec 0)) (B:=w.heap.size) (F':=F) (D:=(buf.take len)) (dn:=true) (T:=[]) (er:=0) (meth':=([] : List (List UInt8))) (buf':=(buf.drop len)) hL.out rfl hpD.out hpN.out (fun _ => hpT.out) hpE.out hpB.out rfl (by rw [hes]; exact ((Cn.EvsC.one (Cn.evC_data (Rd.own (Cn.own_len hDw20.out hDl.out)) (On.own hDw20.out))).app (Cn.EvsC.one (Cn.evC_end (L:=[]) (Rd.nil _ 2) (On.nil _))))) (by rw [hes]; exact how20.out) hBw.out hlt.out hzw20.out hF.out (fun k h => .inl h) (kpF.out _ hkw20.out) hCw20.out ?_
        intro _; obtain ⟨k1,⟨k2a,k2b,k2c,k2d⟩,k3⟩:=hcut.out.rd hbuf.out
        refine ⟨hmt.out,hmO.out,⟨_,_,k2d,fun e => (by cases e),fun _ => ⟨k2a,k2b,rfl⟩⟩,k1.kp ((k3 _ hL.out.bufF).off fun k h e => h.2 e) hkw20.out,k3 _ hL.out.bufF,fun hd => ?_⟩
        cases hd
       ·obtain ⟨cm2,rfl⟩ : ∃ c,cm = c + 2:=⟨cm - 2,by omega⟩
        obtain ⟨m1,mr,hm1⟩ : ∃ m r,meth = m :: r:=by
         cases hx : meth with
         | nil => rw [hx] at gml; cases gml
         | cons m r => exact ⟨m,r,rfl⟩
        subst hm1; have c0:=hCw19.out.cell 0; have c3:=hCw19.out.cell 3; have cf3:=hCw19.out.frozen 3; go_upto_region 27 with (fail)
        clear c0 c3 cf3; have hs : Kp (· = g) w19 (w19.setCell ⟨g,3,none⟩ (.slice (some ⟨bm,om + 1,none⟩) mr.length (cm2 + 1))):=(Kp.refl (· = g) w19).set_ (g:=g) (fun _ => rfl) 3 (.slice (some ⟨bm,om + 1,none⟩) mr.length (cm2 + 1))
        have hCw20 : Blk (w19.setCell ⟨g,3,none⟩ (.slice (some ⟨bm,om + 1,none⟩) mr.length (cm2 + 1))) g 73 #[.bool true,.bool closed,.bool false,.slice (some ⟨bm,om + 1,none⟩) mr.length (cm2 + 1),.int .i64 (many : Int),.slice (some ⟨b0,ob + len,none⟩) (buf.length - len) (cap - len),.int .i64 (kind : Int),.int .i64 0,vd,.nilIface]:=(hCw19.out.set_ 3 (.slice (some ⟨bm,om + 1,none⟩) mr.length (cm2 + 1)))
        have hkw20:=hkw19.out.next (fun k _ e => e) hs; have hzw20:=Nat.le_trans hzw19.out hs.size; have hDw20:=hDw19.out.kp (fun k hk e => by have:=(World.ownsRow.lt hDw19.out k hk).1; have:=hgB.out; omega) hs
        have how20:=how19.out.kp (fun k hk e => by have:=(World.ownsRow.lt how19.out k hk).1; have:=hgB.out; omega) hs
        generalize (w19.setCell ⟨g,3,none⟩ (.slice (some ⟨bm,om + 1,none⟩) mr.length (cm2 + 1))) = w20 at *; clear hs; replace hCw20:=Hj hCw20; replace hkw20:=Hj hkw20; replace hzw20:=Hj hzw20; replace hDw20:=Hj hDw20; replace how20:=Hj how20; obtain ⟨bx,ox,ex,t1,t2,t3⟩:=Cn.meth_tail (G:=(· = g)) (F':=F) hmeth.out (by simp) hkw20.out hL.out.methF (fun k h e => (hL.out.methF k h).2 e) (fun k h => h)
        cases ex
        have hmt:=Hj (t2 (by omega)); have hmO:=Hj (t3 (.slice (some ⟨bm,om + 1,none⟩) mr.length (cm2 + 1)) rfl); clear t1 t2 t3; go_wp2; go_ret; have hes : Cn.evs (buf.take len) true [] = [Cn.evData (buf.take len)] ++ [Cn.evEnd []]:=by unfold Cn.evs; rw [if_neg hD0.out]; rfl
        refine Cn.PartR.mk (c:=(Cn.C.mk true closed true (m1 :: mr) many buf kind len dec 0)) (B:=w.heap.size) (F':=F) (D:=(buf.take len)) (dn:=true) (T:=[]) (er:=0) (meth':=mr) (buf':=(buf.drop len)) hL.out rfl hpD.out hpN.out (fun _ => hpT.out) hpE.out hpB.out rfl (by rw [hes]; exact ((Cn.EvsC.one (Cn.evC_data (Rd.own (Cn.own_len hDw20.out hDl.out)) (On.own hDw20.out))).app (Cn.EvsC.one (Cn.evC_end (L:=[]) (Rd.nil _ 2) (On.nil _))))) (by rw [hes]; exact how20.out) hBw.out hlt.out hzw20.out hF.out (fun k h => .inl h) (kpF.out _ hkw20.out) hCw20.out ?_
        intro _; obtain ⟨k1,⟨k2a,k2b,k2c,k2d⟩,k3⟩:=hcut.out.rd hbuf.out
        refine ⟨hmt.out,hmO.out,⟨_,_,k2d,fun e => (by cases e),fun _ => ⟨k2a,k2b,rfl⟩⟩,k1.kp ((k3 _ hL.out.bufF).off fun k h e => h.2 e) hkw20.out,k3 _ hL.out.bufF,fun hd => ?_⟩
        cases hd
   ·have hpN : Cn.pDone (Cn.C.mk resp closed true meth many buf kind len dec 0) = false:=by rw [hpN0]; exact decide_eq_false hle
    have hpD:=hpD0.trans (List.take_of_length_le (by omega)); have hpB:=hpB0.trans (show buf.drop len = buf.drop buf.length by rw [List.drop_length]; exact List.drop_of_length_le (by omega))
    have gmin : ¬ (len : Int) ≤ (buf.length : Int):=by omega
    clear hpN0 hpD0 hpB0; replace hpN:=Hj hpN; replace hpD:=Hj hpD; replace hpB:=Hj hpB; have hfr:=Hj (hbuf.out); have hNl : buf.length ≤ buf.length:=Nat.le_refl _
    have c5:=hCw.out.cell 5; have c6:=hCw.out.cell 6; have c7:=hCw.out.cell 7; go_enter Tryz.func31,Tryz.ntmps31
    go_upto_region 5 with (fail)
    go_region
    rw [show min (len : Int) (buf.length : Int) = (buf.length : Int) from by omega]
    clear c5 c6 c7; have hCw14 : Blk w.drew g 73 #[.bool resp,.bool closed,.bool true,.slice Am meth.length cm,.int .i64 (many : Int),.slice (some ⟨b0,ob,none⟩) buf.length cap,.int .i64 (kind : Int),.int .i64 (len : Int),vd,.nilIface]:=hCw.out
    have hkw14:=hkw.out.drew; have hzw14 : w.heap.size ≤ w.drew.heap.size:=hzw.out
    have hfr2 : Rd w.drew 1 (.slice (some ⟨b0,ob,none⟩) buf.length cap) buf.length (u8s buf):=hfr.out.drewN 1
    generalize w.drew = w14 at *; replace hCw14:=Hj hCw14; replace hkw14:=Hj hkw14; replace hzw14:=Hj hzw14; replace hfr2:=Hj hfr2; have g7 : (buf.length : Int) ≤ (cap : Int):=by omega
    have g8 : buf.length ≤ cap:=by omega
    have c5:=hCw14.out.cell 5; have h1c : ∀ u ∈ u8s buf,u.oneCell' = true:=fun u hu => by obtain ⟨x,-,rfl⟩:=List.mem_map.1 hu; rfl
    replace h1c:=Hj h1c; go_upto_region 7 with (at_builtin; go_loud (refine step_pushR (v:=Value.slice none 0 0) (n:=0) (m:=buf.length) (xs:=[]) (news:=u8s buf) (c:=cap) (A:=(some ⟨b0,ob,none⟩)) (B:=w.heap.size) 23 5 (.int .u8 0) 1 1 _ _ rfl rfl Tryz.underlying23 infoU8 rfl (by decide) (by decide) rfl (own_nil _ _ _ _) rfl hfr2.out h1c.out (by omega) hzw14.out ?_); intro vD w15 hDw15 hgx hat; rw [Nat.zero_add,List.nil_append] at hDw15; have hCw15:=Hj (Blk.grown8 hCw14.out hgx (fun e => by cases e)); have hkw15:=Hj (hkw14.out.grown hgx (fun k e => by cases e)); have hzw15:=Hj (Nat.le_trans hzw14.out hgx.size); clear hgx hat)
    obtain ⟨AD,cD,rfl,-,-,-⟩:=id (Rd.own hDw15)
    replace hDw15:=Hj hDw15; clear h1c; clear c5; by_cases hcp : buf.length = cap
    ·subst hcp
     have hcut : Hid (Cn.CutB (some ⟨b0,ob,none⟩) buf.length buf.length buf.length (.slice (some ⟨b0,ob,none⟩) 0 0)):=⟨b0,ob,rfl,hNl,hcap,.inr ⟨rfl,rfl⟩⟩
     have c5:=hCw15.out.cell 5; have c7:=hCw15.out.cell 7; have cf5:=hCw15.out.frozen 5; have cf7:=hCw15.out.frozen 7; go_upto_region 9 with (fail)
     clear c5 c7 cf5 cf7; have hs : Kp (· = g) w15 ((w15.setCell ⟨g,5,none⟩ (.slice (some ⟨b0,ob,none⟩) 0 0)).setCell ⟨g,7,none⟩ (.int .i64 ((len : Int) - (buf.length : Int)))):=((Kp.refl (· = g) w15).set_ (g:=g) (fun _ => rfl) 5 (.slice (some ⟨b0,ob,none⟩) 0 0)).set_ (g:=g) (fun _ => rfl) 7 (.int .i64 ((len : Int) - (buf.length : Int)))
     have hCw16 : Blk ((w15.setCell ⟨g,5,none⟩ (.slice (some ⟨b0,ob,none⟩) 0 0)).setCell ⟨g,7,none⟩ (.int .i64 ((len : Int) - (buf.length : Int)))) g 73 #[.bool resp,.bool closed,.bool true,.slice Am meth.length cm,.int .i64 (many : Int),.slice (some ⟨b0,ob,none⟩) 0 0,.int .i64 (kind : Int),.int .i64 ((len : Int) - (buf.length : Int)),vd,.nilIface]:=((hCw15.out.set_ 5 (.slice (some ⟨b0,ob,none⟩) 0 0)).set_ 7 (.int .i64 ((len : Int) - (buf.length : Int))))
     have hkw16:=hkw15.out.next (fun k _ e => e) hs; have hzw16:=Nat.le_trans hzw15.out hs.size; have hDw16:=hDw15.out.kp (fun k hk e => by have:=(World.ownsRow.lt hDw15.out k hk).1; have:=hgB.out; omega) hs
     generalize ((w15.setCell ⟨g,5,none⟩ (.slice (some ⟨b0,ob,none⟩) 0 0)).setCell ⟨g,7,none⟩ (.int .i64 ((len : Int) - (buf.length : Int)))) = w16 at *; clear hs; replace hCw16:=Hj hCw16; replace hkw16:=Hj hkw16; replace hzw16:=Hj hzw16; replace hDw16:=Hj hDw16; have q9 : (((len : Int) - (buf.length : Int)) == 0) = false:=beq_false_of_ne (by omega)
     have c7:=hCw16.out.cell 7; go_upto_region 20 with (fail)
     clear c7; by_cases hD0 : buf = []
     ·have gD : ¬ (0 : Int) < (buf.length : Int):=by rw [show buf.length = 0 from by rw [hD0]; rfl]; decide
      have gD2 : buf.length = 0:=by omega
      replace gD2:=Hj gD2; replace hD0:=Hj hD0; skip
      go_wp2; go_ret; have hes : Cn.evs buf false [] = []:=by unfold Cn.evs; rw [if_pos hD0.out]; rfl
      refine Cn.PartR.mk (c:=(Cn.C.mk resp closed true meth many buf kind len dec 0)) (B:=w.heap.size) (F':=F) (D:=buf) (dn:=false) (T:=[]) (er:=0) (meth':=meth) (buf':=(buf.drop buf.length)) hL.out rfl hpD.out hpN.out (fun _ => hpT.out) hpE.out hpB.out rfl (by rw [hes]; exact Cn.EvsC.nil) (by rw [hes]; exact (own_nil w16 (w.heap.size) 77 8)) hBw.out hlt.out hzw16.out hF.out (fun k h => .inl h) (kpF.out _ hkw16.out) hCw16.out ?_
      intro _; obtain ⟨k1,⟨k2a,k2b,k2c,k2d⟩,k3⟩:=hcut.out.rd hbuf.out
      refine ⟨hmeth.out.kp (hL.out.methF.off fun k h e => h.2 e) hkw16.out,hL.out.methF,⟨_,_,k2d,fun e => (by cases e),fun _ => ⟨k2a,k2b,rfl⟩⟩,k1.kp ((k3 _ hL.out.bufF).off fun k h e => h.2 e) hkw16.out,k3 _ hL.out.bufF,fun hd => ?_⟩
      exact ⟨by rw [hpL.out]; omega,fun h => absurd h h3.out⟩
     ·have gD : (0 : Int) < (buf.length : Int):=by have:=List.length_pos_iff.2 hD0; skip; omega
      replace hD0:=Hj hD0; go_upto_region 21 with (fail)
      go_upto_region 22 with (at_builtin; go_loud (refine push_ev (v:=Value.slice none 0 0) (n:=0) (xs:=[]) (B:=w.heap.size) _ _ rfl rfl rfl (own_nil w16 (w.heap.size) 77 8) rfl (by intro u hu; simp only [List.mem_cons,List.mem_nil_iff,or_false] at hu; rcases hu with rfl | rfl | rfl | rfl | rfl | rfl | rfl | rfl <;> rfl) (by omega) hzw16.out ?_); intro vo0 w17 how17 hgx hat; have hCw17:=Hj (Blk.grown8 (hCw16.out.alloc (.cells #[.int .i64 2,.string ⟨#[]⟩,.string ⟨#[]⟩,.slice none 0 0,.int .i64 0,.slice none 0 0,.slice AD buf.length cD,.slice none 0 0] 77)) hgx (fun e => by cases e)); have hkw17:=Hj ((hkw16.out.alloc (.cells #[.int .i64 2,.string ⟨#[]⟩,.string ⟨#[]⟩,.slice none 0 0,.int .i64 0,.slice none 0 0,.slice AD buf.length cD,.slice none 0 0] 77)).grown hgx (fun k e => by cases e)); have hzw17:=Hj (Nat.le_trans (Nat.le_trans hzw16.out (by rw [alloc_size']; omega)) hgx.size); have hDw17:=Hj (own_kpg ((hDw16.out).alloc (.cells #[.int .i64 2,.string ⟨#[]⟩,.string ⟨#[]⟩,.slice none 0 0,.int .i64 0,.slice none 0 0,.slice AD buf.length cD,.slice none 0 0] 77)) hgx (fun k _ e => by cases e)); clear hgx hat)
      obtain ⟨Ao0,co0,rfl,-,-,-⟩:=id (Rd.own how17)
      replace how17:=Hj how17; go_wp2; go_ret; have hes : Cn.evs buf false [] = [Cn.evData buf]:=by unfold Cn.evs; rw [if_neg hD0.out]; rfl
      refine Cn.PartR.mk (c:=(Cn.C.mk resp closed true meth many buf kind len dec 0)) (B:=w.heap.size) (F':=F) (D:=buf) (dn:=false) (T:=[]) (er:=0) (meth':=meth) (buf':=(buf.drop buf.length)) hL.out rfl hpD.out hpN.out (fun _ => hpT.out) hpE.out hpB.out rfl (by rw [hes]; exact (Cn.EvsC.one (Cn.evC_data (Rd.own hDw17.out) (On.own hDw17.out)))) (by rw [hes]; exact how17.out) hBw.out hlt.out hzw17.out hF.out (fun k h => .inl h) (kpF.out _ hkw17.out) hCw17.out ?_
      intro _; obtain ⟨k1,⟨k2a,k2b,k2c,k2d⟩,k3⟩:=hcut.out.rd hbuf.out
      refine ⟨hmeth.out.kp (hL.out.methF.off fun k h e => h.2 e) hkw17.out,hL.out.methF,⟨_,_,k2d,fun e => (by cases e),fun _ => ⟨k2a,k2b,rfl⟩⟩,k1.kp ((k3 _ hL.out.bufF).off fun k h e => h.2 e) hkw17.out,k3 _ hL.out.bufF,fun hd => ?_⟩
      exact ⟨by rw [hpL.out]; omega,fun h => absurd h h3.out⟩
    ·have hlt2 : buf.length < cap:=by omega
     have hcut : Hid (Cn.CutB (some ⟨b0,ob,none⟩) buf.length cap buf.length (.slice (some ⟨b0,ob + buf.length,none⟩) 0 (cap - buf.length))):=⟨b0,ob,rfl,hNl,hcap,.inl ⟨hlt2,by rw [Nat.sub_self]⟩⟩
     have c5:=hCw15.out.cell 5; have c7:=hCw15.out.cell 7; have cf5:=hCw15.out.frozen 5; have cf7:=hCw15.out.frozen 7; go_upto_region 9 with (fail)
     clear c5 c7 cf5 cf7; have hs : Kp (· = g) w15 ((w15.setCell ⟨g,5,none⟩ (.slice (some ⟨b0,ob + buf.length,none⟩) 0 (cap - buf.length))).setCell ⟨g,7,none⟩ (.int .i64 ((len : Int) - (buf.length : Int)))):=((Kp.refl (· = g) w15).set_ (g:=g) (fun _ => rfl) 5 (.slice (some ⟨b0,ob + buf.length,none⟩) 0 (cap - buf.length))).set_ (g:=g) (fun _ => rfl) 7 (.int .i64 ((len : Int) - (buf.length : Int)))
     have hCw16 : Blk ((w15.setCell ⟨g,5,none⟩ (.slice (some ⟨b0,ob + buf.length,none⟩) 0 (cap - buf.length))).setCell ⟨g,7,none⟩ (.int .i64 ((len : Int) - (buf.length : Int)))) g 73 #[.bool resp,.bool closed,.bool true,.slice Am meth.length cm,.int .i64 (many : Int),.slice (some ⟨b0,ob + buf.length,none⟩) 0 (cap - buf.length),.int .i64 (kind : Int),.int .i64 ((len : Int) - (buf.length : Int)),vd,.nilIface]:=((hCw15.out.set_ 5 (.slice (some ⟨b0,ob + buf.length,none⟩) 0 (cap - buf.length))).set_ 7 (.int .i64 ((len : Int) - (buf.length : Int))))
     have hkw16:=hkw15.out.next (fun k _ e => e) hs; have hzw16:=Nat.le_trans hzw15.out hs.size; have hDw16:=hDw15.out.kp (fun k hk e => by have:=(World.ownsRow.lt hDw15.out k hk).1; have:=hgB.out; omega) hs
     generalize ((w15.setCell ⟨g,5,none⟩ (.slice (some ⟨b0,ob + buf.length,none⟩) 0 (cap - buf.length))).setCell ⟨g,7,none⟩ (.int .i64 ((len : Int) - (buf.length : Int)))) = w16 at *; clear hs; replace hCw16:=Hj hCw16; replace hkw16:=Hj hkw16; replace hzw16:=Hj hzw16; replace hDw16:=Hj hDw16; have q9 : (((len : Int) - (buf.length : Int)) == 0) = false:=beq_false_of_ne (by omega)
     have c7:=hCw16.out.cell 7; go_upto_region 20 with (fail)
     clear c7; by_cases hD0 : buf = []
     ·have gD : ¬ (0 : Int) < (buf.length : Int):=by rw [show buf.length = 0 from by rw [hD0]; rfl]; decide
      have gD2 : buf.length = 0:=by omega
      replace gD2:=Hj gD2; replace hD0:=Hj hD0; skip
      go_wp2; go_ret; have hes : Cn.evs buf false [] = []:=by unfold Cn.evs; rw [if_pos hD0.out]; rfl
      refine Cn.PartR.mk (c:=(Cn.C.mk resp closed true meth many buf kind len dec 0)) (B:=w.heap.size) (F':=F) (D:=buf) (dn:=false) (T:=[]) (er:=0) (meth':=meth) (buf':=(buf.drop buf.length)) hL.out rfl hpD.out hpN.out (fun _ => hpT.out) hpE.out hpB.out rfl (by rw [hes]; exact Cn.EvsC.nil) (by rw [hes]; exact (own_nil w16 (w.heap.size) 77 8)) hBw.out hlt.out hzw16.out hF.out (fun k h => .inl h) (kpF.out _ hkw16.out) hCw16.out ?_
      intro _; obtain ⟨k1,⟨k2a,k2b,k2c,k2d⟩,k3⟩:=hcut.out.rd hbuf.out
      refine ⟨hmeth.out.kp (hL.out.methF.off fun k h e => h.2 e) hkw16.out,hL.out.methF,⟨_,_,k2d,fun e => (by cases e),fun _ => ⟨k2a,k2b,rfl⟩⟩,k1.kp ((k3 _ hL.out.bufF).off fun k h e => h.2 e) hkw16.out,k3 _ hL.out.bufF,fun hd => ?_⟩
      exact ⟨by rw [hpL.out]; omega,fun h => absurd h h3.out⟩
     ·have gD : (0 : Int) < (buf.length : Int):=by have:=List.length_pos_iff.2 hD0; skip; omega
      replace hD0:=Hj hD0; go_upto_region 21 with (fail)
      go_upto_region 22 with (at_builtin; go_loud (refine push_ev (v:=Value.slice none 0 0) (n:=0) (xs:=[]) (B:=w.heap.size) _ _ rfl rfl rfl (own_nil w16 (w.heap.size) 77 8) rfl (by intro u hu; simp only [List.mem_cons,List.mem_nil_iff,or_false] at hu; rcases hu with rfl | rfl | rfl | rfl | rfl | rfl | rfl | rfl <;> rfl) (by omega) hzw16.out ?_); intro vo0 w17 how17 hgx hat; have hCw17:=Hj (Blk.grown8 (hCw16.out.alloc (.cells #[.int .i64 2,.string ⟨#[]⟩,.string ⟨#[]⟩,.slice none 0 0,.int .i64 0,.slice none 0 0,.slice AD buf.length cD,.slice none 0 0] 77)) hgx (fun e => by cases e)); have hkw17:=Hj ((hkw16.out.alloc (.cells #[.int .i64 2,.string ⟨#[]⟩,.string ⟨#[]⟩,.slice none 0 0,.int .i64 0,.slice none 0 0,.slice AD buf.length cD,.slice none 0 0] 77)).grown hgx (fun k e => by cases e)); have hzw17:=Hj (Nat.le_trans (Nat.le_trans hzw16.out (by rw [alloc_size']; omega)) hgx.size); have hDw17:=Hj (own_kpg ((hDw16.out).alloc (.cells #[.int .i64 2,.string ⟨#[]⟩,.string ⟨#[]⟩,.slice none 0 0,.int .i64 0,.slice none 0 0,.slice AD buf.length cD,.slice none 0 0] 77)) hgx (fun k _ e => by cases e)); clear hgx hat)
      obtain ⟨Ao0,co0,rfl,-,-,-⟩:=id (Rd.own how17)
      replace how17:=Hj how17; go_wp2; go_ret; have hes : Cn.evs buf false [] = [Cn.evData buf]:=by unfold Cn.evs; rw [if_neg hD0.out]; rfl
      refine Cn.PartR.mk (c:=(Cn.C.mk resp closed true meth many buf kind len dec 0)) (B:=w.heap.size) (F':=F) (D:=buf) (dn:=false) (T:=[]) (er:=0) (meth':=meth) (buf':=(buf.drop buf.length)) hL.out rfl hpD.out hpN.out (fun _ => hpT.out) hpE.out hpB.out rfl (by rw [hes]; exact (Cn.EvsC.one (Cn.evC_data (Rd.own hDw17.out) (On.own hDw17.out)))) (by rw [hes]; exact how17.out) hBw.out hlt.out hzw17.out hF.out (fun k h => .inl h) (kpF.out _ hkw17.out) hCw17.out ?_
      intro _; obtain ⟨k1,⟨k2a,k2b,k2c,k2d⟩,k3⟩:=hcut.out.rd hbuf.out
      refine ⟨hmeth.out.kp (hL.out.methF.off fun k h e => h.2 e) hkw17.out,hL.out.methF,⟨_,_,k2d,fun e => (by cases e),fun _ => ⟨k2a,k2b,rfl⟩⟩,k1.kp ((k3 _ hL.out.bufF).off fun k h e => h.2 e) hkw17.out,k3 _ hL.out.bufF,fun hd => ?_⟩
      exact ⟨by rw [hpL.out]; omega,fun h => absurd h h3.out⟩
end Go.Proofs.YtjffffpfejmoiaaGreatDoor
