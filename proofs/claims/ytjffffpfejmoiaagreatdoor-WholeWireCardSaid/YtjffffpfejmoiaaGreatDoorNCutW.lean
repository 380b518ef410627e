import Derived.Test.YtjffffpfejmoiaaGreatDoorGNu
import Derived.Test.YtjffffpfejmoiaaGreatDoorNNone
import Derived.Test.YtjffffpfejmoiaaGreatDoorNEv
namespace Go.Proofs.YtjffffpfejmoiaaGreatDoor
open Go.RowKit Syn Hd Fr Ck
namespace Cn
theorem feed_cons (c : C) (b : List UInt8) (l : List (List UInt8)) : feed c (b :: l) = ((feed (write c b).1 l).1,(write c b).2 ++ (feed (write c b).1 l).2):=rfl
theorem feed_stuck : ∀ (l : List (List UInt8)) (d : C),d.err ≠ 0 → (feed d l).1 = d
 | [],_,_ => rfl
 | x :: l,d,hd => by
  show (feed (write d x).1 l).1 = d
  rw [write_bad hd]; exact feed_stuck l d hd
theorem write_evs2 (c : C) (b : List UInt8) : (write c b).2.length ≤ 200:=by
 unfold write
 split
 ·exact Nat.zero_le _
 ·have h:=R_evs2 _ (app c b) (Nat.le_refl _)
  split at h <;> omega
theorem write_buf (c : C) (b : List UInt8) : (write c b).1.buf.length ≤ c.buf.length + b.length:=by
 have:=write_dsum' c b
 omega
structure CI (w : World) (g : Nat) (F : Nat → Prop) (c0 : C) (b zs : List UInt8) (wr : World) (o : Value) (i : Nat) (r : List UInt8) (c : C) (l : List Ev) (F1 : Nat → Prop) (xs : List Value) : Prop where
 eq : feed c0 (cuts b zs) = ((feed c (cuts r (zs.drop i))).1,l ++ (feed c (cuts r (zs.drop i))).2)
 fin : (feed c (cuts r (zs.drop i))).1.err = 0
 at_ : At wr g F1 c
 frm : ∀ k,F1 k → F k ∨ w.heap.size ≤ k
 kp : Kp F w wr
 own : Own wr w.heap.size 77 8 o l.length xs
 off : Off F1 o
 evs : EvsC wr (fun k => w.heap.size ≤ k ∧ k < wr.heap.size ∧ ¬ F1 k ∧ o.ownBlock ≠ some k) l xs
 buf : c.buf.length + r.length ≤ 900000
 len : l.length + (cuts r (zs.drop i)).length * 200 ≤ 100000
def CutR (w : World) (g : Nat) (F : Nat → Prop) (r : C × List Ev) (e : Ending) (w' : World) : Prop :=
 ∃ o F' xs,e = .returned (.tuple #[o,.nilIface]) ∧ EvsC w' (fun k => w.heap.size ≤ k ∧ k < w'.heap.size ∧ ¬ F' k) r.2 xs ∧ Rd w' 8 o r.2.length xs ∧ On (fun k => w.heap.size ≤ k ∧ k < w'.heap.size ∧ ¬ F' k) o ∧ (∀ k,F' k → F k ∨ w.heap.size ≤ k) ∧ Kp F w w' ∧ At w' g F' r.1
end Cn
set_option maxRecDepth 100000 in
set_option maxHeartbeats 16000000 in
theorem wcut_any {c0 : Cn.C} {w : World} {g : Nat} {F : Nat → Prop} (hA : Cn.At w g F c0) (b zs : List UInt8) (Ab Az : Option Addr) (cb cz : Nat) (hRb : Rd w 1 (.slice Ab b.length cb) b.length (u8s b)) (hRz : Rd w 1 (.slice Az zs.length cz) zs.length (u8s zs))
  (hob : Off F (.slice Ab b.length cb)) (hoz : 0 < zs.length → Off F (.slice Az zs.length cz)) (hfin : (Cn.feed c0 (Cn.cuts b zs)).1.err = 0) (hm : c0.buf.length + b.length ≤ 900000) (hzl : zs.length ≤ 200) (hM : ∀ w',Kp F w w' → MaxL w') :
  Calls Tryz.prog 14 #[.pointer (some ⟨g,0,none⟩),.slice Ab b.length cb,.slice Az zs.length cz] w (Cn.CutR w g F (Cn.feed c0 (Cn.cuts b zs))):=by
 have hcl:=Cn.cuts_len zs b; have hI0 : Cn.CI w g F c0 b zs w (.slice none 0 0) 0 b c0 [] F []:=⟨rfl,hfin,hA,fun k h => .inl h,Kp.refl _ _,own_nil _ _ _ _,fun k h => (by cases h),.nil,hm,by show 0 + _ * 200 ≤ _; rw [List.drop_zero]; omega⟩
 replace hRb:=Hj hRb; replace hRz:=Hj hRz; replace hob:=Hj hob; replace hoz:=Hj hoz; replace hM:=Hj hM; replace hI0:=Hj hI0; clear hfin hcl hA; go_enter Tryz.func14,Tryz.ntmps14
 go_wp2; go_loopw [1,8,9] (fun bv o i wr => ∃ (n : Nat) (r : List UInt8) (A : Option Addr) (cp : Nat) (c : Cn.C) (l : List Cn.Ev) (F1 : Nat → Prop) (xs : List Value),i = .int .i64 (n : Int) ∧ n + r.length ≤ b.length ∧ bv = .slice A r.length cp ∧ Hid (Rd w 1 (.slice A r.length cp) r.length (u8s r)) ∧ Hid (Off F (.slice A r.length cp)) ∧ Hid (Cn.CI w g F c0 b zs wr o n r c l F1 xs)) (fun bv _ _ _ => Cn.slen bv)
 case atStart => exact ⟨0,b,Ab,cb,c0,[],F,[],rfl,by omega,rfl,hRb,hob,hI0⟩
 case round =>
  clear hI0; obtain ⟨n,r,A,cp,c,l,F1,xs,rfl,hnr,rfl,hRw,hOff,hI⟩:=hrel
  by_cases hr0 : r = []
  ·subst hr0
   have hlen0 : ¬ (0 : Int) < (([] : List UInt8).length : Int):=by decide
   have heq:=hI.out.eq; rw [Cn.cuts_nil] at heq
   have heq' : Cn.feed c0 (Cn.cuts b zs) = (c,l):=by rw [heq]; show (c,l ++ []) = _; rw [List.append_nil]
   replace heq':=Hj heq'; clear heq; go_wp2; go_ret2
   rw [heq'.out]
   obtain ⟨i1,i2,i3,i4,i5,i6,i7,i8,i9,i10⟩:=hI.out
   refine ⟨_,F1,xs,rfl,i8.mono (fun k hp => ⟨hp.1,hp.2.1,hp.2.2.1⟩),Rd.own i6,fun k e => ?_,i4,i5,i3⟩
   have:=World.ownsRow.lt i6 k e
   exact ⟨this.1,this.2,i7 k e⟩
  ·have hrp:=List.length_pos_iff.2 hr0
   obtain ⟨A',cp',e',hcap,-,hrr⟩:=id hRw.out; cases e'; obtain ⟨b0,o0,rfl,-,-⟩:=hrr hrp
   clear hrr; have hRr:=Hj (hRw.out.kp hOff.out hI.out.kp); have hNle:=Cn.cutN_le r zs n; have hNp:=Cn.cutN_pos (zs:=zs) (i:=n) hr0; by_cases hi : n < zs.length
   ·obtain ⟨Az',cz',ez,-,-,hzr0⟩:=hRz.out.kp (hoz.out (by omega)) hI.out.kp
    cases ez
    obtain ⟨bz,oz,rfl,-,hzx⟩:=hzr0 (by omega)
    have hzc : wr.cell? ⟨bz,oz + n,none⟩ = some (.int .u8 (zs[n].toNat : Int)):=hzx n _ (u8s_at hi)
    have hzb : zs[n].toNat < 256:=UInt8.toNat_lt _
    have hcn : Cn.cutN r zs n = min r.length (zs[n].toNat + 1):=dif_pos hi
    clear hzx hzr0; generalize zs[n].toNat = z at *; obtain ⟨N,hN⟩ : ∃ N,Cn.cutN r zs n = N:=⟨_,rfl⟩
    have hNe:=hN; rw [hN] at hNle hNp hcn
    have hlN : (r.take N).length = N:=by rw [List.length_take]; omega
    have hmin : min (r.length : Int) ((z : Int) + 1) = (N : Int):=by omega
    replace hcn:=Hj hcn; go_upto_region 8 with (fail)
    try rw [hmin]
    have g7 : (N : Int) ≤ (cp : Int):=by omega
    have g8 : N ≤ cp:=by omega
    have hW0:=connwrite_any hI.out.at_ (r.take N) (some ⟨b0,o0,none⟩) cp (by rw [hlN]; exact Cn.rd_frontB hRr.out (by omega)) (by rw [hlN]; have:=hI.out.buf; omega) (fun w' hk => hM.out w' (hI.out.kp.next (fun k hlt h => (hI.out.frm k h).elim id (fun h2 => absurd hlt (by omega))) hk))
    rw [hlN] at hW0
    have hwc:=Cn.write_evs2 c (r.take N); have hwb:=Cn.write_buf c (r.take N); have heq:=hI.out.eq; have hfin:=hI.out.fin; rw [Cn.cuts_at (i:=n) (zs:=zs) hr0,hNe,Cn.feed_cons] at heq hfin
    generalize hwr : Cn.write c (r.take N) = rw_ at *; obtain ⟨c',one⟩:=rw_
    have he0 : c'.err = 0:=by
     apply Decidable.byContradiction
     intro h; have h2 : (Cn.feed c' (Cn.cuts (r.drop N) (zs.drop (n + 1)))).1.err = 0:=hfin
     rw [Cn.feed_stuck _ _ h] at h2
     exact h h2
    have hErr : errV (c',one).1.err = .nilIface:=by show errV c'.err = _; rw [he0]; rfl
    have hone : one.length ≤ 200:=hwc
    have hll : l.length + ((Cn.cuts (r.drop N) (zs.drop (n + 1))).length + 1) * 200 ≤ 100000:=by
     have h:=hI.out.len; rw [Cn.cuts_at (i:=n) (zs:=zs) hr0,hNe,List.length_cons] at h
     exact h
    replace hW0:=Hj hW0; replace heq:=Hj heq; replace hfin:=Hj hfin; replace hwr:=Hj hwr; replace hwb:=Hj hwb; replace hNe:=Hj hNe; replace hlN:=Hj hlN; clear hwc; go_wp2_with fail
    refine hW0.out.mono ?_
    rintro e w6 ⟨o6,F6,xs6,rfl,hE6,hR6,hO6,hFF6,hk6,hA6⟩
    rw [hErr]
    have hzr:=hI.out.kp.size; have hO6n:=hI.out.own.kp hI.out.off hk6; have hE6n:=hI.out.evs.kp hk6 (fun k hp => hp.2.2.1); have hK6 : Kp F w w6:=hI.out.kp.next (fun k hlt h => (hI.out.frm k h).elim id (fun h2 => absurd hlt (by omega))) hk6
    have hz6:=hk6.size; have hF6lt : ∀ k,F6 k → k < w6.heap.size:=fun k h => hA6.2.1 k h
    have hF6n : ∀ k,F6 k → F k ∨ w.heap.size ≤ k:=fun k h => by
     rcases hFF6 k h with h | h
     ·exact hI.out.frm k h
     ·exact .inr (by omega)
    have hF6m : ∀ k,F6 k → u8.ownBlock ≠ some k:=fun k h e => by
     rcases hFF6 k h with h | h
     ·exact hI.out.off k e h
     ·have h1:=Own.lt hI.out.own e
      omega
    have hx6:=hE6.cells1; obtain ⟨A6,cap6,rfl,-,-,-⟩:=id hR6; have hlen : (l ++ one).length = l.length + one.length:=List.length_append
    have hnx : ∀ (v7 : Value) (w7 : World),Own w7 w.heap.size 77 8 v7 (l.length + one.length) (xs ++ xs6) → w6.grownBy w7 u8.ownBlock → (v7.ownBlock = u8.ownBlock ∨ v7.ownBlock = some w6.heap.size) →
      Cn.CI w g F c0 b zs w7 v7 (n + 1) (r.drop N) c' (l ++ one) F6 (xs ++ xs6):=fun v7 w7 ho7 hg7 hat7 => by
     have hK67 : Kp (fun k => u8.ownBlock = some k) w6 w7:=(Kp.refl (fun k => u8.ownBlock = some k) w6).grown hg7 (fun k e _ => e)
     have hz7:=hK67.size; refine ⟨?_,hfin.out,hA6.kp hK67 hF6m,hF6n,hK6.grown hg7 (fun k e hlt2 => absurd (World.ownsRow.lt hO6n k e).1 (by omega)),by rw [hlen]; exact ho7,fun k e h => ?_,((hE6n.kp hK67 (fun k hp e => hp.2.2.2 e)).mono (fun k hp => ?_)).app ((hE6.kp hK67 (fun k hp e => ?_)).mono (fun k hp => ?_)),?_,?_⟩
     ·rw [heq.out,List.append_assoc]
     ·rcases hat7 with h2 | h2
      ·exact hF6m k h (h2.symm.trans e)
      ·have h3 : k = w6.heap.size:=Option.some.inj (e.symm.trans h2)
       have:=hF6lt k h
       omega
     ·obtain ⟨p1,p2,p3,p4⟩:=hp
      refine ⟨p1,by omega,fun h => ?_,fun e => ?_⟩
      ·rcases hFF6 k h with h | h
       ·exact p3 h
       ·omega
      ·rcases hat7 with h3 | h3
       ·exact p4 (h3.symm.trans e)
       ·have h4 : k = w6.heap.size:=Option.some.inj (e.symm.trans h3)
        omega
     ·have h1:=Own.lt hI.out.own e
      have h3:=hp.1; omega
     ·obtain ⟨p1,p2,p3⟩:=hp
      refine ⟨by omega,by omega,p3,fun e => ?_⟩
      rcases hat7 with h3 | h3
      ·have h4:=Own.lt hI.out.own (h3.symm.trans e)
       omega
      ·have h4 : k = w6.heap.size:=Option.some.inj (e.symm.trans h3)
       omega
     ·have h1:=hwb.out
      have h2 : (r.drop N).length = r.length - N:=List.length_drop
      have h3:=hI.out.buf; have h4 : (r.take N).length = N:=hlN.out
      show c'.buf.length + (r.drop N).length ≤ 900000
      have h5 : c'.buf.length ≤ c.buf.length + (r.take N).length:=h1
      omega
     ·rw [List.length_append]; omega
    replace hnx:=Hj hnx; replace hO6n:=Hj hO6n; replace hR6:=Hj hR6; replace hx6:=Hj hx6; have hzw6 : w.heap.size ≤ w6.heap.size:=by omega
    have hdN : (r.drop N).length = r.length - N:=List.length_drop
    clear hE6 hO6 hFF6 hk6 hA6 hE6n hK6 hF6lt hF6m hW0 hErr hlen hF6n; replace hdN:=Hj hdN; by_cases hcp : N = cp
    ·have hcut : Hid (Cn.CutB (some ⟨b0,o0,none⟩) r.length cp N (.slice (some ⟨b0,o0,none⟩) 0 0)):=Hj ⟨b0,o0,rfl,by omega,by omega,.inr ⟨hcp,rfl⟩⟩
     subst hcp; go_wp2_with (at_builtin; refine push_evs (n:=l.length) (m:=one.length) (c:=cap6) (A:=A6) _ _ rfl rfl rfl hO6n.out rfl hR6.out hx6.out (by omega) hzw6 ?_; intro v7 w7 ho7 hg7 hat7; have hI7:=Hj (hnx.out v7 w7 ho7 hg7 hat7); clear ho7 hg7 hat7)
     go_roundw
     case rel =>
      obtain ⟨q1,⟨b',o',cap',q2⟩,q3⟩:=hcut.out.rd hRw.out
      have h0 : (r.drop N).length = 0:=by rw [hdN.out]; omega
      exact ⟨n + 1,r.drop N,some ⟨b0,o0,none⟩,0,c',l ++ one,F6,xs ++ xs6,by go_num,by rw [h0]; omega,by rw [h0],Hj (by rw [h0] at q1 ⊢; exact q1),Hj (by rw [h0]; exact fun k hk => hOff.out k hk),hI7⟩
     case measure => simp [Cn.slen]; omega
    ·have hlt2 : N < cp:=by omega
     have hcut : Hid (Cn.CutB (some ⟨b0,o0,none⟩) r.length cp N (.slice (some ⟨b0,o0 + N,none⟩) (r.length - N) (cp - N))):=Hj ⟨b0,o0,rfl,by omega,by omega,.inl ⟨hlt2,rfl⟩⟩
     go_wp2_with (at_builtin; refine push_evs (n:=l.length) (m:=one.length) (c:=cap6) (A:=A6) _ _ rfl rfl rfl hO6n.out rfl hR6.out hx6.out (by omega) hzw6 ?_; intro v7 w7 ho7 hg7 hat7; have hI7:=Hj (hnx.out v7 w7 ho7 hg7 hat7); clear ho7 hg7 hat7)
     go_roundw
     case rel =>
      obtain ⟨q1,-,-⟩:=hcut.out.rd hRw.out
      exact ⟨n + 1,r.drop N,some ⟨b0,o0 + N,none⟩,cp - N,c',l ++ one,F6,xs ++ xs6,by go_num,by rw [hdN.out]; omega,by rw [hdN.out]; try go_num,Hj (by rw [hdN.out] at q1 ⊢; exact q1),Hj (by rw [hdN.out]; exact fun k hk => hOff.out k hk),hI7⟩
     case measure => simp [Cn.slen]; omega
   ·have hcn : Cn.cutN r zs n = r.length:=dif_neg hi
    obtain ⟨N,hN⟩ : ∃ N,Cn.cutN r zs n = N:=⟨_,rfl⟩
    have hNe:=hN; rw [hN] at hNle hNp hcn
    have hlN : (r.take N).length = N:=by rw [List.length_take]; omega
    go_upto_region 8 with (fail)
    rw [show (r.length : Int) = (N : Int) by omega]
    replace hcn:=Hj hcn; have g7 : (N : Int) ≤ (cp : Int):=by omega
    have g8 : N ≤ cp:=by omega
    have hW0:=connwrite_any hI.out.at_ (r.take N) (some ⟨b0,o0,none⟩) cp (by rw [hlN]; exact Cn.rd_frontB hRr.out (by omega)) (by rw [hlN]; have:=hI.out.buf; omega) (fun w' hk => hM.out w' (hI.out.kp.next (fun k hlt h => (hI.out.frm k h).elim id (fun h2 => absurd hlt (by omega))) hk))
    rw [hlN] at hW0
    have hwc:=Cn.write_evs2 c (r.take N); have hwb:=Cn.write_buf c (r.take N); have heq:=hI.out.eq; have hfin:=hI.out.fin; rw [Cn.cuts_at (i:=n) (zs:=zs) hr0,hNe,Cn.feed_cons] at heq hfin
    generalize hwr : Cn.write c (r.take N) = rw_ at *; obtain ⟨c',one⟩:=rw_
    have he0 : c'.err = 0:=by
     apply Decidable.byContradiction
     intro h; have h2 : (Cn.feed c' (Cn.cuts (r.drop N) (zs.drop (n + 1)))).1.err = 0:=hfin
     rw [Cn.feed_stuck _ _ h] at h2
     exact h h2
    have hErr : errV (c',one).1.err = .nilIface:=by show errV c'.err = _; rw [he0]; rfl
    have hone : one.length ≤ 200:=hwc
    have hll : l.length + ((Cn.cuts (r.drop N) (zs.drop (n + 1))).length + 1) * 200 ≤ 100000:=by
     have h:=hI.out.len; rw [Cn.cuts_at (i:=n) (zs:=zs) hr0,hNe,List.length_cons] at h
     exact h
    replace hW0:=Hj hW0; replace heq:=Hj heq; replace hfin:=Hj hfin; replace hwr:=Hj hwr; replace hwb:=Hj hwb; replace hNe:=Hj hNe; replace hlN:=Hj hlN; clear hwc; go_wp2_with fail
    refine hW0.out.mono ?_
    rintro e w6 ⟨o6,F6,xs6,rfl,hE6,hR6,hO6,hFF6,hk6,hA6⟩
    rw [hErr]
    have hzr:=hI.out.kp.size; have hO6n:=hI.out.own.kp hI.out.off hk6; have hE6n:=hI.out.evs.kp hk6 (fun k hp => hp.2.2.1); have hK6 : Kp F w w6:=hI.out.kp.next (fun k hlt h => (hI.out.frm k h).elim id (fun h2 => absurd hlt (by omega))) hk6
    have hz6:=hk6.size; have hF6lt : ∀ k,F6 k → k < w6.heap.size:=fun k h => hA6.2.1 k h
    have hF6n : ∀ k,F6 k → F k ∨ w.heap.size ≤ k:=fun k h => by
     rcases hFF6 k h with h | h
     ·exact hI.out.frm k h
     ·exact .inr (by omega)
    have hF6m : ∀ k,F6 k → u8.ownBlock ≠ some k:=fun k h e => by
     rcases hFF6 k h with h | h
     ·exact hI.out.off k e h
     ·have h1:=Own.lt hI.out.own e
      omega
    have hx6:=hE6.cells1; obtain ⟨A6,cap6,rfl,-,-,-⟩:=id hR6; have hlen : (l ++ one).length = l.length + one.length:=List.length_append
    have hnx : ∀ (v7 : Value) (w7 : World),Own w7 w.heap.size 77 8 v7 (l.length + one.length) (xs ++ xs6) → w6.grownBy w7 u8.ownBlock → (v7.ownBlock = u8.ownBlock ∨ v7.ownBlock = some w6.heap.size) →
      Cn.CI w g F c0 b zs w7 v7 (n + 1) (r.drop N) c' (l ++ one) F6 (xs ++ xs6):=fun v7 w7 ho7 hg7 hat7 => by
     have hK67 : Kp (fun k => u8.ownBlock = some k) w6 w7:=(Kp.refl (fun k => u8.ownBlock = some k) w6).grown hg7 (fun k e _ => e)
     have hz7:=hK67.size; refine ⟨?_,hfin.out,hA6.kp hK67 hF6m,hF6n,hK6.grown hg7 (fun k e hlt2 => absurd (World.ownsRow.lt hO6n k e).1 (by omega)),by rw [hlen]; exact ho7,fun k e h => ?_,((hE6n.kp hK67 (fun k hp e => hp.2.2.2 e)).mono (fun k hp => ?_)).app ((hE6.kp hK67 (fun k hp e => ?_)).mono (fun k hp => ?_)),?_,?_⟩
     ·rw [heq.out,List.append_assoc]
     ·rcases hat7 with h2 | h2
      ·exact hF6m k h (h2.symm.trans e)
      ·have h3 : k = w6.heap.size:=Option.some.inj (e.symm.trans h2)
       have:=hF6lt k h
       omega
     ·obtain ⟨p1,p2,p3,p4⟩:=hp
      refine ⟨p1,by omega,fun h => ?_,fun e => ?_⟩
      ·rcases hFF6 k h with h | h
       ·exact p3 h
       ·omega
      ·rcases hat7 with h3 | h3
       ·exact p4 (h3.symm.trans e)
       ·have h4 : k = w6.heap.size:=Option.some.inj (e.symm.trans h3)
        omega
     ·have h1:=Own.lt hI.out.own e
      have h3:=hp.1; omega
     ·obtain ⟨p1,p2,p3⟩:=hp
      refine ⟨by omega,by omega,p3,fun e => ?_⟩
      rcases hat7 with h3 | h3
      ·have h4:=Own.lt hI.out.own (h3.symm.trans e)
       omega
      ·have h4 : k = w6.heap.size:=Option.some.inj (e.symm.trans h3)
       omega
     ·have h1:=hwb.out
      have h2 : (r.drop N).length = r.length - N:=List.length_drop
      have h3:=hI.out.buf; have h4 : (r.take N).length = N:=hlN.out
      show c'.buf.length + (r.drop N).length ≤ 900000
      have h5 : c'.buf.length ≤ c.buf.length + (r.take N).length:=h1
      omega
     ·rw [List.length_append]; omega
    replace hnx:=Hj hnx; replace hO6n:=Hj hO6n; replace hR6:=Hj hR6; replace hx6:=Hj hx6; have hzw6 : w.heap.size ≤ w6.heap.size:=by omega
    have hdN : (r.drop N).length = r.length - N:=List.length_drop
    clear hE6 hO6 hFF6 hk6 hA6 hE6n hK6 hF6lt hF6m hW0 hErr hlen hF6n; replace hdN:=Hj hdN; by_cases hcp : N = cp
    ·have hcut : Hid (Cn.CutB (some ⟨b0,o0,none⟩) r.length cp N (.slice (some ⟨b0,o0,none⟩) 0 0)):=Hj ⟨b0,o0,rfl,by omega,by omega,.inr ⟨hcp,rfl⟩⟩
     subst hcp; go_wp2_with (at_builtin; refine push_evs (n:=l.length) (m:=one.length) (c:=cap6) (A:=A6) _ _ rfl rfl rfl hO6n.out rfl hR6.out hx6.out (by omega) hzw6 ?_; intro v7 w7 ho7 hg7 hat7; have hI7:=Hj (hnx.out v7 w7 ho7 hg7 hat7); clear ho7 hg7 hat7)
     go_roundw
     case rel =>
      obtain ⟨q1,⟨b',o',cap',q2⟩,q3⟩:=hcut.out.rd hRw.out
      have h0 : (r.drop N).length = 0:=by rw [hdN.out]; omega
      exact ⟨n + 1,r.drop N,some ⟨b0,o0,none⟩,0,c',l ++ one,F6,xs ++ xs6,by go_num,by rw [h0]; omega,by rw [h0],Hj (by rw [h0] at q1 ⊢; exact q1),Hj (by rw [h0]; exact fun k hk => hOff.out k hk),hI7⟩
     case measure => simp [Cn.slen]; omega
    ·have hlt2 : N < cp:=by omega
     have hcut : Hid (Cn.CutB (some ⟨b0,o0,none⟩) r.length cp N (.slice (some ⟨b0,o0 + N,none⟩) (r.length - N) (cp - N))):=Hj ⟨b0,o0,rfl,by omega,by omega,.inl ⟨hlt2,rfl⟩⟩
     go_wp2_with (at_builtin; refine push_evs (n:=l.length) (m:=one.length) (c:=cap6) (A:=A6) _ _ rfl rfl rfl hO6n.out rfl hR6.out hx6.out (by omega) hzw6 ?_; intro v7 w7 ho7 hg7 hat7; have hI7:=Hj (hnx.out v7 w7 ho7 hg7 hat7); clear ho7 hg7 hat7)
     go_roundw
     case rel =>
      obtain ⟨q1,-,-⟩:=hcut.out.rd hRw.out
      exact ⟨n + 1,r.drop N,some ⟨b0,o0 + N,none⟩,cp - N,c',l ++ one,F6,xs ++ xs6,by go_num,by rw [hdN.out]; omega,by rw [hdN.out]; try go_num,Hj (by rw [hdN.out] at q1 ⊢; exact q1),Hj (by rw [hdN.out]; exact fun k hk => hOff.out k hk),hI7⟩
     case measure => simp [Cn.slen]; omega
end Go.Proofs.YtjffffpfejmoiaaGreatDoor
