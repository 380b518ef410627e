import Derived.Test.YtjffffpfejmoiaaGreatDoorGNs
import Derived.Test.YtjffffpfejmoiaaGreatDoorNEv
import Derived.Test.YtjffffpfejmoiaaGreatDoorDMem
import Derived.Test.YtjffffpfejmoiaaGreatDoorGPl
import Derived.Test.YtjffffpfejmoiaaGreatDoorGCe
import Derived.Deep.QuietTactic
import Derived.BigQuiet
namespace Go.Proofs.YtjffffpfejmoiaaGreatDoor
open Go.RowKit Syn Hd Fr Ck
namespace Cn
structure EvQ (e : Ev) : Prop where
 kind : e.kind = 1 ∨ e.kind = 2 ∨ e.kind = 3
 m : e.kind = 1 → e.m ≠ []
 mt : e.m.length + e.t.length ≤ 50000
 rf : Fr.Few e.rf
 data : e.data.length ≤ 150000
 trl : e.tr.length ≤ 1000
 tr : ∀ p ∈ e.tr,p.1.length ≤ 100000 ∧ p.2.length ≤ 100000
def FmtR (w : World) (r : Int × FS) (e : Ending) (w' : World) : Prop :=
 ∃ o,e = .returned (.tuple #[o,errV r.1]) ∧ (r.1 = 0 → Own w' w.heap.size 5 1 o r.2.out.length (u8s r.2.out)) ∧ Below w.heap.size w w'
theorem FmtR.bad {w w' : World} {r : Int × FS} {n : Int} (h : r.1 = n) (h0 : n ≠ 0) (hb : Below w.heap.size w w') : FmtR w r (.returned (.tuple #[.slice none 0 0,.iface 57 (.int .i64 n)])) w' :=
 ⟨.slice none 0 0,by rw [h,herr_ne h0],fun e => absurd (h.symm.trans e) h0,hb⟩
structure FI (w : World) (l : List Ev) (wr : World) (o : Value) (k : Nat) (s : FS) : Prop where
 eq : fmt fs0 l = fmt s (l.drop k)
 cl : s.cl = false
 k4 : s.k ≠ 4 ∧ s.n ≤ 65536
 len : s.out.length ≤ k * 200000
 own : Own wr w.heap.size 5 1 o s.out.length (u8s s.out)
 frm : Blk wr w.heap.size 69 #[.int .i64 (s.k : Int),.int .i64 (s.n : Int)]
 bel : Below w.heap.size w wr
theorem FI.next {w : World} {l : List Ev} {wr w9 : World} {o v9 : Value} {k : Nat} {s s' : FS} (h : FI w l wr o k s) (hk : k < l.length) (hf : fev s l[k] = (0,s')) (c4 : s'.cl = false ∧ s'.k ≠ 4 ∧ s'.n ≤ 65536) (hl : s'.out.length ≤ s.out.length + 200000)
  (hO : Own w9 w.heap.size 5 1 v9 s'.out.length (u8s s'.out)) (hF : Blk w9 w.heap.size 69 #[.int .i64 (s'.k : Int),.int .i64 (s'.n : Int)]) (hB : Below w.heap.size w w9) : FI w l w9 v9 (k + 1) s':=by
 refine ⟨?_,c4.1,c4.2,by have:=h.len; omega,hO,hF,hB⟩
 rw [h.eq,List.drop_eq_getElem_cons hk,fmt_cons _ hf]
theorem FI.stop {w : World} {l : List Ev} {wr : World} {o : Value} {k : Nat} {s s' : FS} {x : Int} (h : FI w l wr o k s) (hk : k < l.length) (hf : fev s l[k] = (x,s')) (hx : x ≠ 0) : (fmt fs0 l).1 = x:=by
 rw [h.eq,List.drop_eq_getElem_cons hk,fmt_bad _ hf hx]
end Cn
theorem few_lens {L : List (List UInt8 × List UInt8)} (h : Fr.Few L) : ∀ p ∈ L,p.1.length ≤ 1000000 ∧ p.2.length ≤ 1000000:=fun p hp => by have:=h.short p hp; omega
theorem wqB_len {m t : List UInt8} {f : List (List UInt8 × List UInt8)} : (wqB m t f).length ≤ 8192:=by
 by_cases hw : wqE m t f = 0
 ·obtain ⟨r1,-,-,-,r5⟩:=req_back [] hw
  rw [List.append_nil] at r1 r5
  obtain ⟨n,h1,h2,h3,h4,-⟩:=lnE_ok (rqE_ok r1)
  rw [h1] at r5
  have : n = (wqB m t f).length:=by exact_mod_cast r5
  omega
 ·unfold wqB
  rw [if_neg hw]; exact Nat.zero_le _
theorem chk_len (b : List UInt8) (h : b.length ≤ 150000) : (Ck.chk b).length ≤ b.length + 14:=by
 unfold Ck.chk
 split
 ·exact Nat.zero_le _
 ·have:=hexs_len 5 b.length (by omega)
  simp only [List.length_append,List.length_cons,List.length_nil]; omega
theorem lastB_len {l : List (List UInt8 × List UInt8)} (h : (okL l && fitL l) = true) : (lastB l).length ≤ 9000:=by
 rw [Bool.and_eq_true] at h
 have hf:=h.2; unfold fitL at hf
 simp only [Bool.and_eq_true,decide_eq_true_eq] at hf
 unfold lastB
 simp only [List.length_append,List.length_cons,List.length_nil]; omega
set_option maxRecDepth 100000 in
set_option maxHeartbeats 16000000 in
theorem format_any {l : List Cn.Ev} {Q : Nat → Prop} {xs : List Value} (v : Value) (w : World) (hE : Cn.EvsC w Q l xs) (hQ : ∀ k,Q k → k < w.heap.size) (hR : Rd w 8 v l.length xs) (hq : ∀ e ∈ l,Cn.EvQ e) (hn : l.length ≤ 20000) (hT : w.cell? ⟨5,15,none⟩ = some (.int .u8 4)) :
  Calls Tryz.prog 16 #[v] w (Cn.FmtR w (Cn.fmt Cn.fs0 l)):=by
 obtain ⟨A,cap,rfl,hcap,-,-⟩:=id hR; have hT5 : 5 < w.heap.size:=cell_lt hT
 replace hT:=Hj hT; replace hR:=Hj hR; replace hE:=Hj hE; replace hQ:=Hj hQ; replace hq:=Hj hq; go_enter Tryz.func16,Tryz.ntmps16
 go_wp2; go_loopw [4,5,6,14] (fun o op cl i wr => ∃ (k : Nat) (s : Cn.FS),i = .int .i64 (k : Int) ∧ k ≤ l.length ∧ op = .bool s.op ∧ cl = .bool false ∧ Hid (Cn.FI w l wr o k s)) (fun _ _ _ i _ => l.length - (intOf i).toNat)
 case atStart => exact ⟨0,Cn.fs0,rfl,Nat.zero_le _,rfl,rfl,Hj ⟨rfl,rfl,⟨by decide,Nat.zero_le _⟩,Nat.zero_le _,own_nil _ _ _ _,Blk.new w _ _,(Below.refl _ _).alloc (Nat.le_refl _) _⟩⟩
 case round =>
  obtain ⟨k,s,rfl,hk,rfl,rfl,hI⟩:=hrel
  obtain ⟨op,cl,kk,nn,out⟩:=s
  obtain rfl : cl = false:=hI.out.cl
  have hB:=hI.out.bel; have hBw:=hB.size; by_cases hlt : k < l.length
  ·obtain ⟨zs,hz,hx⟩:=hE.out.at_ hlt
   have hqk:=hq.out _ (List.getElem_mem hlt); have hev : ∃ e,l[k] = e:=⟨_,rfl⟩
   obtain ⟨ev,hev⟩:=hev
   rw [hev] at hz hqk
   obtain ⟨vr,vs,vd,vt,rfl,r1,-,r2,-,r3,o3',r4,-⟩:=hz
   obtain ⟨A',cap',e',-,-,r'⟩:=hR.out.below hB
   cases e'; obtain ⟨b1,o1,rfl,_,x1⟩:=r' (by omega)
   have d0 : wr.cell? ⟨b1,o1 + k * 8,none⟩ = some (.int .i64 (ev.kind : Int)):=x1 _ _ ((hx 0 (by decide)).trans rfl)
   have d1 : wr.cell? ⟨b1,o1 + k * 8 + 1,none⟩ = some (.string (str ev.m)):=x1 _ _ ((hx 1 (by decide)).trans rfl)
   have d2 : wr.cell? ⟨b1,o1 + k * 8 + 2,none⟩ = some (.string (str ev.t)):=x1 _ _ ((hx 2 (by decide)).trans rfl)
   have d3 : wr.cell? ⟨b1,o1 + k * 8 + 3,none⟩ = some vr:=x1 _ _ ((hx 3 (by decide)).trans rfl)
   have d4 : wr.cell? ⟨b1,o1 + k * 8 + 4,none⟩ = some (.int .i64 ev.st):=x1 _ _ ((hx 4 (by decide)).trans rfl)
   have d5 : wr.cell? ⟨b1,o1 + k * 8 + 5,none⟩ = some vs:=x1 _ _ ((hx 5 (by decide)).trans rfl)
   have d6 : wr.cell? ⟨b1,o1 + k * 8 + 6,none⟩ = some vd:=x1 _ _ ((hx 6 (by decide)).trans rfl)
   have d7 : wr.cell? ⟨b1,o1 + k * 8 + 7,none⟩ = some vt:=x1 _ _ ((hx 7 (by decide)).trans rfl)
   have hrR:=r1.below hB; have hrD:=r3.below hB; have hrT:=r4.below hB; clear x1 r' hx; obtain ⟨Ar,cr,rfl,-,-,-⟩:=id r1; obtain ⟨As,cs,rfl,-,-,-⟩:=id r2; obtain ⟨Ad,cd,rfl,-,-,-⟩:=id r3; obtain ⟨At,ct,rfl,-,-,-⟩:=id r4; have oD : ∀ b,(Value.slice Ad ev.data.length cd).ownBlock = some b → b < w.heap.size:=fun b e => hQ.out b (o3' b e)
   replace oD:=Hj oD; clear r1 r2 r3 r4 o3'; replace hrR:=Hj hrR; replace hrD:=Hj hrD; replace hrT:=Hj hrT; replace hev:=Hj hev; replace hB:=Hj hB; go_upto_region 7 with (fail)
   have hX:=Blk.new wr 77 #[.int .i64 (ev.kind : Int),.string (str ev.m),.string (str ev.t),.slice Ar ev.rf.length cr,.int .i64 ev.st,.slice As ev.sf.length cs,.slice Ad ev.data.length cd,.slice At ev.tr.length ct]; have hbx:=(Below.refl wr.heap.size wr).alloc (Nat.le_refl _) (.cells #[.int .i64 (ev.kind : Int),.string (str ev.m),.string (str ev.t),.slice Ar ev.rf.length cr,.int .i64 ev.st,.slice As ev.sf.length cs,.slice Ad ev.data.length cd,.slice At ev.tr.length ct] 77); have hzx : (wr.alloc (.cells #[.int .i64 (ev.kind : Int),.string (str ev.m),.string (str ev.t),.slice Ar ev.rf.length cr,.int .i64 ev.st,.slice As ev.sf.length cs,.slice Ad ev.data.length cd,.slice At ev.tr.length ct] 77)).heap.size = wr.heap.size + 1:=alloc_size' _ _
   obtain ⟨G,hGz⟩ : ∃ G,wr.heap.size = G:=⟨_,rfl⟩
   rw [hGz] at hX hzx ⊢
   generalize wr.alloc (.cells #[.int .i64 (ev.kind : Int),.string (str ev.m),.string (str ev.t),.slice Ar ev.rf.length cr,.int .i64 ev.st,.slice As ev.sf.length cs,.slice Ad ev.data.length cd,.slice At ev.tr.length ct] 77) = w2 at *; clear d0 d1 d2 d3 d4 d5 d6 d7; have hBx:=hB.out.trans (hbx.mono hBw); have hR2:=Hj (hrR.out.below hbx); have hD2:=Hj (hrD.out.below hbx); have hT2:=Hj (hrT.out.below hbx); have hOx:=own_below hI.out.own hbx; have hFx:=hI.out.frm.below hbx; have hll:=hI.out.len; obtain ⟨hk4,hn6⟩:=hI.out.k4
   simp only at hll hk4 hn6
   have hBs : w.heap.size ≤ w2.heap.size:=by omega
   have m0 : w2.cell? ⟨G,0,none⟩ = some (.int .i64 (ev.kind : Int)):=hX.cell 0
   have m1 : w2.cell? ⟨G,1,none⟩ = some (.string (str ev.m)):=hX.cell 1
   have m2 : w2.cell? ⟨G,2,none⟩ = some (.string (str ev.t)):=hX.cell 2
   have m3 : w2.cell? ⟨G,3,none⟩ = some (.slice Ar ev.rf.length cr):=hX.cell 3
   have m6 : w2.cell? ⟨G,6,none⟩ = some (.slice Ad ev.data.length cd):=hX.cell 6
   have m7 : w2.cell? ⟨G,7,none⟩ = some (.slice At ev.tr.length ct):=hX.cell 7
   have f0 : w2.cell? ⟨w.heap.size,0,none⟩ = some (.int .i64 (kk : Int)):=hFx.cell 0
   have f1 : w2.cell? ⟨w.heap.size,1,none⟩ = some (.int .i64 (nn : Int)):=hFx.cell 1
   have z0 : w2.frozen? ⟨w.heap.size,0,none⟩ = false:=hFx.frozen 0
   have z1 : w2.frozen? ⟨w.heap.size,1,none⟩ = false:=hFx.frozen 1
   have hgl : w.heap.size < w2.heap.size:=hFx.lt
   clear hzx hrR hrD hrT hbx; replace hGz:=Hj hGz; replace hX:=Hj hX; replace hBx:=Hj hBx; replace hOx:=Hj hOx; replace hFx:=Hj hFx; clear hB hBw; obtain ⟨hkd,hmn,hmt,hfw,hdt,htl,htr⟩:=hqk
   replace hfw:=Hj hfw; replace htr:=Hj htr; by_cases k1 : ev.kind = 1
   ·have q1 : ((ev.kind : Int) == 1) = true:=by rw [k1]; rfl
    have q1l : ¬ ((ev.kind : Int) < 1):=by omega
    have q1g : ¬ ((3 : Int) < (ev.kind : Int)):=by omega
    have hme : (str ev.m).toList.isEmpty = false:=by rw [str_toList]; cases hmm : ev.m with | nil => exact absurd hmm (hmn k1) | cons a b => rfl
    have hmb : ((str ev.m).toList == []) = false:=by rw [str_toList]; cases hmm : ev.m with | nil => exact absurd hmm (hmn k1) | cons a b => rfl
    clear hmn hkd; replace k1:=Hj k1; cases op
    ·have hW:=Hj (wreq_any ev.m ev.t ev.rf (.slice Ar ev.rf.length cr) w2 hmt hR2.out (few_lens hfw.out) (by have:=hfw.out.len; omega))
     have hfe : Hid (Cn.fev ⟨false,false,kk,nn,out⟩ ev = if wqE ev.m ev.t ev.rf ≠ 0 then (wqE ev.m ev.t ev.rf,⟨false,false,kk,nn,out⟩) else if (frame 1 ev.rf).2 ≠ 0 then ((frame 1 ev.rf).2,⟨false,false,kk,nn,out⟩) else (0,⟨true,false,(frame 1 ev.rf).1.1,(frame 1 ev.rf).1.2,out ++ wqB ev.m ev.t ev.rf⟩)):=Hj (by
      exact Cn.fev_head k1.out rfl rfl)
     go_wp2_with fail
     refine hW.out.mono ?_
     rintro e w3 ⟨v3,rfl,ho3,hb3⟩
     have hB3:=hBx.out.trans (hb3.mono hBs); have hO3:=own_below hOx.out hb3; have hF3:=hFx.out.below hb3; have hX3:=hX.out.below hb3; have n1 : w3.cell? ⟨G,1,none⟩ = some (.string (str ev.m)):=hX3.cell 1
     have n2 : w3.cell? ⟨G,2,none⟩ = some (.string (str ev.t)):=hX3.cell 2
     have n3 : w3.cell? ⟨G,3,none⟩ = some (.slice Ar ev.rf.length cr):=hX3.cell 3
     have hR3:=hR2.out.below hb3; have hs3:=hb3.size; clear hW m0 m1 m2 m3 m6 m7 f0 f1 z0 z1; replace hB3:=Hj hB3; replace hO3:=Hj hO3; replace hF3:=Hj hF3; replace hR3:=Hj hR3; clear hX3 hb3; by_cases hz : wqE ev.m ev.t ev.rf = 0
     ·rw [hz,errV_zero]
      rw [hz,if_neg (fun h => h rfl)] at hfe
      have hlw : Hid ((wqB ev.m ev.t ev.rf).length ≤ 8192):=Hj wqB_len
      have hCf:=Hj (of_request ev.rf (str ev.m) (str ev.t) Ar cr w3 hfw.out hR3.out); have hkf:=Hj (fun h => Cn.frame_no4 (L:=ev.rf) h); clear hz; generalize wqB ev.m ev.t ev.rf = hb at *; generalize frame 1 ev.rf = fr at *; obtain ⟨⟨fk,fn⟩,fe⟩:=fr
      simp only at hfe hkf
      obtain ⟨Av,cv,rfl,-,-,-⟩:=id ho3.rd; replace ho3:=Hj ho3; go_wp2_with fail
      refine hCf.out.mono ?_
      rintro e w4 ⟨rfl,hb4⟩
      have hB4:=hB3.out.trans (hb4.mono (by omega)); have hO4:=own_below hO3.out hb4; have hF4:=hF3.out.below hb4; have ho4:=ho3.out.below hb4; have f0 : w4.cell? ⟨w.heap.size,0,none⟩ = some (.int .i64 (kk : Int)):=hF4.cell 0
      have f1 : w4.cell? ⟨w.heap.size,1,none⟩ = some (.int .i64 (nn : Int)):=hF4.cell 1
      have z0 : w4.frozen? ⟨w.heap.size,0,none⟩ = false:=hF4.frozen 0
      have z1 : w4.frozen? ⟨w.heap.size,1,none⟩ = false:=hF4.frozen 1
      have hs4:=hb4.size; have hKs:=((Kp.refl (fun b => b = w.heap.size) w4).set_ (g:=w.heap.size) (fun _ => rfl) 0 (.int .i64 (fk : Int))).set_ (g:=w.heap.size) (fun _ => rfl) 1 (.int .i64 (fn : Int)); have hF5:=(hF4.set_ 0 (.int .i64 (fk : Int))).set_ 1 (.int .i64 (fn : Int)); have hO5:=hO4.kp (fun b hb2 (e : b = w.heap.size) => Own.ne hO4 hF4 (by decide) (by rw [← e]; exact hb2)) hKs
      have ho5:=ho4.rd.kp (fun b hb2 (e : b = w.heap.size) => by have:=(ho4.lt hb2).1; omega) hKs
      have hB5:=hB4.trans (hKs.toBelow (by omega) (fun k e => by omega)); have hs5 : w.heap.size ≤ ((w4.setCell ⟨w.heap.size,0,none⟩ (.int .i64 (fk : Int))).setCell ⟨w.heap.size,1,none⟩ (.int .i64 (fn : Int))).heap.size:=by have:=hKs.size; omega
      clear hCf n1 n2 n3 hb4 hKs hO4 hF4 ho4 hB4; replace hF5:=Hj hF5; replace hO5:=Hj hO5; replace ho5:=Hj ho5; replace hB5:=Hj hB5; replace hs5:=Hj hs5; by_cases hz2 : fe = 0
      ·subst hz2
       rw [if_neg (fun h => h rfl)] at hfe
       rw [errV_zero]
       obtain ⟨kf1,kf2⟩:=hkf.out rfl
       unfold frameV
       replace hfe:=Hj hfe; have hMl : (hb).length ≤ 200000:=by have:=hlw.out; omega
       go_wp2_with (at_builtin; refine step_push8W (B:=w.heap.size) (L:=out) (M:=hb) _ _ (by rfl) rfl (by rfl) hO5.out (by rfl) ho5.out (by omega) hs5.out ?_; intro v9 w9 ho9 hg9 hat9; replace ho9:=Hj ho9; replace hg9:=Hj hg9; clear hat9)
       go_roundw
       case rel => exact ⟨k + 1,⟨true,false,fk,fn,out ++ hb⟩,by go_num,by omega,rfl,rfl,Hj (hI.out.next (s':=⟨true,false,fk,fn,out ++ hb⟩) hlt (by rw [hev.out]; exact hfe.out.out) ⟨rfl,⟨kf1,kf2⟩⟩ (by show (out ++ hb).length ≤ out.length + 200000; rw [List.length_append]; omega) ho9.out (Blk.grown8 hF5.out hg9.out (Own.ne hO5.out hF5.out (by decide))) (hB5.out.trans (below_grown hO5.out hg9.out hs5.out)))⟩
       case measure => simp [intOf]; omega
      ·rw [if_pos hz2] at hfe
       rw [herr_ne hz2]
       unfold frameV
       replace hfe:=Hj hfe; go_wp2; go_ret2
       exact Cn.FmtR.bad (hI.out.stop hlt (by rw [hev.out]; exact hfe.out.out) hz2) hz2 hB5.out
     ·rw [herr_ne hz]
      rw [if_pos hz] at hfe
      go_wp2; go_ret2
      exact Cn.FmtR.bad (hI.out.stop hlt (by rw [hev.out]; exact hfe.out) hz) hz hB3.out
    ·have hfe : Cn.fev ⟨true,false,kk,nn,out⟩ ev = (6,⟨true,false,kk,nn,out⟩):=by
      exact Cn.fev_off (decide_eq_true k1.out).symm
     replace hfe:=Hj hfe; go_wp2; go_ret2
     exact Cn.FmtR.bad (hI.out.stop hlt (by rw [hev.out]; exact hfe.out) (by decide)) (by decide) hBx.out
   ·have q1 : ((ev.kind : Int) == 1) = false:=by simp; omega
    have q1l : ¬ ((ev.kind : Int) < 1):=by omega
    have q1g : ¬ ((3 : Int) < (ev.kind : Int)):=by omega
    clear hmn; have hcl : 5 < w.heap.size:=hT5
    have hTc:=Hj ((hBx.out.cell (p:=⟨5,15,none⟩) hT5).trans hT.out); cases op
    ·have hfe : Cn.fev ⟨false,false,kk,nn,out⟩ ev = (6,⟨false,false,kk,nn,out⟩):=by
      exact Cn.fev_off (decide_eq_false k1).symm
     replace hfe:=Hj hfe; replace k1:=Hj k1; go_wp2; go_ret2
     exact Cn.FmtR.bad (hI.out.stop hlt (by rw [hev.out]; exact hfe.out) (by decide)) (by decide) hBx.out
    ·by_cases k2 : ev.kind = 2
     ·have q2 : ((ev.kind : Int) == 2) = true:=by rw [k2]; rfl
      have hfe0 : Cn.fev ⟨true,false,kk,nn,out⟩ ev = (if kk = 3 then (0,⟨true,false,kk,nn,out ++ Ck.chk ev.data⟩) else if kk = 1 ∧ ev.data ≠ [] then (6,⟨true,false,kk,nn,out⟩) else if kk = 2 ∧ nn < ev.data.length then (30,⟨true,false,kk,nn,out⟩) else (0,⟨true,false,kk,(if kk = 2 then nn - ev.data.length else nn),out ++ ev.data⟩)):=by
       exact Cn.fev_data k2 rfl rfl
      clear hkd; replace k1:=Hj k1; replace k2:=Hj k2; by_cases h3 : kk = 3
      ·have qk : ((kk : Int) == 3) = true:=by rw [h3]; rfl
       have hfe : Cn.fev ⟨true,false,kk,nn,out⟩ ev = (0,⟨true,false,kk,nn,out ++ Ck.chk ev.data⟩):=by rw [hfe0,if_pos h3]
       have hC:=Hj (chunk_any ev.data Ad cd w2 hD2.out (by omega) hTc.out); have hcl:=chk_len ev.data hdt; replace hfe:=Hj hfe; replace hfe0:=Hj hfe0; replace h3:=Hj h3; go_wp2_with fail
       refine hC.out.mono ?_
       rintro e w3 ⟨v3,rfl,ho3,hb3⟩
       have hB3:=Hj (hBx.out.trans (hb3.mono hBs)); have hO3:=Hj (own_below hOx.out hb3); have hF3:=Hj (hFx.out.below hb3); have hs3 : w.heap.size ≤ w3.heap.size:=by have:=hb3.size; omega
       generalize Ck.chk ev.data = cb at *; obtain ⟨Av,cv,rfl,-,-,-⟩:=id (Rd.own ho3)
       have hRv:=Hj (Rd.own ho3); clear hC ho3 hb3 m0 m1 m2 m3 m6 m7 f0 f1 z0 z1; have hMl : (cb).length ≤ 200000:=by omega
       go_wp2_with (at_builtin; refine step_push8W (B:=w.heap.size) (L:=out) (M:=cb) _ _ (by rfl) rfl (by rfl) hO3.out (by rfl) hRv.out (by omega) hs3 ?_; intro v9 w9 ho9 hg9 hat9; replace ho9:=Hj ho9; replace hg9:=Hj hg9; clear hat9)
       go_roundw
       case rel => exact ⟨k + 1,⟨true,false,kk,nn,out ++ cb⟩,by go_num,by omega,rfl,rfl,Hj (hI.out.next (s':=⟨true,false,kk,nn,out ++ cb⟩) hlt (by rw [hev.out]; exact hfe.out) ⟨rfl,⟨hk4,hn6⟩⟩ (by show (out ++ cb).length ≤ out.length + 200000; rw [List.length_append]; omega) ho9.out (Blk.grown8 hF3.out hg9.out (Own.ne hO3.out hF3.out (by decide))) (hB3.out.trans (below_grown hO3.out hg9.out hs3)))⟩
       case measure => simp [intOf]; omega
      ·have qk : ((kk : Int) == 3) = false:=by simp; omega
       rw [if_neg h3] at hfe0
       by_cases h1 : kk = 1
       ·have qk1 : ((kk : Int) == 1) = true:=by rw [h1]; rfl
        have qk2 : ((kk : Int) == 2) = false:=by rw [h1]; rfl
        by_cases hd0 : ev.data = []
        ·have hfe : Cn.fev ⟨true,false,kk,nn,out⟩ ev = (0,⟨true,false,kk,nn,out ++ ev.data⟩):=by
          rw [hfe0,if_neg (fun h => h.2 hd0),if_neg (by rintro ⟨h,-⟩; omega),if_neg (by omega)]
         have hdl : ¬ (0 < ev.data.length):=by rw [hd0]; decide
         replace hfe:=Hj hfe; replace hfe0:=Hj hfe0; replace h1:=Hj h1; replace hd0:=Hj hd0; have hMl : (ev.data).length ≤ 200000:=by omega
         go_wp2_with (at_builtin; refine step_push8W (B:=w.heap.size) (L:=out) (M:=ev.data) _ _ (by rfl) rfl (by rfl) hOx.out (by rfl) hD2.out (by omega) hBs ?_; intro v9 w9 ho9 hg9 hat9; replace ho9:=Hj ho9; replace hg9:=Hj hg9; clear hat9)
         go_roundw
         case rel => exact ⟨k + 1,⟨true,false,kk,nn,out ++ ev.data⟩,by go_num,by omega,rfl,rfl,Hj (hI.out.next (s':=⟨true,false,kk,nn,out ++ ev.data⟩) hlt (by rw [hev.out]; exact hfe.out) ⟨rfl,⟨hk4,hn6⟩⟩ (by show (out ++ ev.data).length ≤ out.length + 200000; rw [List.length_append]; omega) ho9.out (Blk.grown8 hFx.out hg9.out (Own.ne hOx.out hFx.out (by decide))) (hBx.out.trans (below_grown hOx.out hg9.out hBs)))⟩
         case measure => simp [intOf]; omega
        ·have hfe : Cn.fev ⟨true,false,kk,nn,out⟩ ev = (6,⟨true,false,kk,nn,out⟩):=by
          rw [hfe0,if_pos ⟨h1,hd0⟩]
         have hdl : 0 < ev.data.length:=List.length_pos_iff.2 hd0
         replace hfe:=Hj hfe; replace hfe0:=Hj hfe0; replace h1:=Hj h1; replace hd0:=Hj hd0; go_wp2; go_ret2
         exact Cn.FmtR.bad (hI.out.stop hlt (by rw [hev.out]; exact hfe.out) (by decide)) (by decide) hBx.out
       ·have qk1 : ((kk : Int) == 1) = false:=by simp; omega
        rw [if_neg (fun h => h1 h.1)] at hfe0
        by_cases h2 : kk = 2
        ·have qk2 : ((kk : Int) == 2) = true:=by rw [h2]; rfl
         by_cases hdn : nn < ev.data.length
         ·have hfe : Cn.fev ⟨true,false,kk,nn,out⟩ ev = (30,⟨true,false,kk,nn,out⟩):=by rw [hfe0,if_pos ⟨h2,hdn⟩]
          replace hfe:=Hj hfe; replace hfe0:=Hj hfe0; replace h2:=Hj h2; go_wp2; go_ret2
          exact Cn.FmtR.bad (hI.out.stop hlt (by rw [hev.out]; exact hfe.out) (by decide)) (by decide) hBx.out
         ·have hfe : Cn.fev ⟨true,false,kk,nn,out⟩ ev = (0,⟨true,false,kk,nn - ev.data.length,out ++ ev.data⟩):=by
           rw [hfe0,if_neg (fun h => hdn h.2),if_pos h2]
          replace hfe:=Hj hfe; replace hfe0:=Hj hfe0; replace h2:=Hj h2; have hKs:=(Kp.refl (fun b => b = w.heap.size) w2).set_ (g:=w.heap.size) (fun _ => rfl) 1 (.int .i64 ((nn : Int) - (ev.data.length : Int))); have hF5 : Blk (w2.setCell ⟨w.heap.size,1,none⟩ (.int .i64 ((nn : Int) - (ev.data.length : Int)))) w.heap.size 69 #[.int .i64 (kk : Int),.int .i64 ((nn - ev.data.length : Nat) : Int)]:=by
           rw [show (nn : Int) - (ev.data.length : Int) = ((nn - ev.data.length : Nat) : Int) by omega]
           exact hFx.out.set_ 1 _
          have hO5:=hOx.out.kp (fun b hb2 (e : b = w.heap.size) => Own.ne hOx.out hFx.out (by decide) (by rw [← e]; exact hb2)) hKs
          have hBd:=hBx.out.trans (hKs.toBelow hBs (fun k e => by omega)); have hD5:=hD2.out; have hD6:=Hj (hD5.kp (fun b e (h : b = w.heap.size) => by have:=oD.out b e; omega) hKs)
          have hs5:=Hj (show w.heap.size ≤ (w2.setCell ⟨w.heap.size,1,none⟩ (.int .i64 ((nn : Int) - (ev.data.length : Int)))).heap.size from by have:=hKs.size; omega)
          clear hKs hD5; replace hF5:=Hj hF5; replace hO5:=Hj hO5; replace hBd:=Hj hBd; have hMl : (ev.data).length ≤ 200000:=by omega
          go_wp2_with (at_builtin; refine step_push8W (B:=w.heap.size) (L:=out) (M:=ev.data) _ _ (by rfl) rfl (by rfl) hO5.out (by rfl) hD6.out (by omega) hs5.out ?_; intro v9 w9 ho9 hg9 hat9; replace ho9:=Hj ho9; replace hg9:=Hj hg9; clear hat9)
          go_roundw
          case rel => exact ⟨k + 1,⟨true,false,kk,nn - ev.data.length,out ++ ev.data⟩,by go_num,by omega,rfl,rfl,Hj (hI.out.next (s':=⟨true,false,kk,nn - ev.data.length,out ++ ev.data⟩) hlt (by rw [hev.out]; exact hfe.out) ⟨rfl,⟨hk4,by show nn - ev.data.length ≤ 65536; omega⟩⟩ (by show (out ++ ev.data).length ≤ out.length + 200000; rw [List.length_append]; omega) ho9.out (Blk.grown8 hF5.out hg9.out (Own.ne hO5.out hF5.out (by decide))) (hBd.out.trans (below_grown hO5.out hg9.out hs5.out)))⟩
          case measure => simp [intOf]; omega
        ·have qk2 : ((kk : Int) == 2) = false:=by simp; omega
         have hfe : Cn.fev ⟨true,false,kk,nn,out⟩ ev = (0,⟨true,false,kk,nn,out ++ ev.data⟩):=by
          rw [hfe0,if_neg (by rintro ⟨h,-⟩; omega),if_neg h2]
         replace hfe:=Hj hfe; replace hfe0:=Hj hfe0; have hMl : (ev.data).length ≤ 200000:=by omega
         go_wp2_with (at_builtin; refine step_push8W (B:=w.heap.size) (L:=out) (M:=ev.data) _ _ (by rfl) rfl (by rfl) hOx.out (by rfl) hD2.out (by omega) hBs ?_; intro v9 w9 ho9 hg9 hat9; replace ho9:=Hj ho9; replace hg9:=Hj hg9; clear hat9)
         go_roundw
         case rel => exact ⟨k + 1,⟨true,false,kk,nn,out ++ ev.data⟩,by go_num,by omega,rfl,rfl,Hj (hI.out.next (s':=⟨true,false,kk,nn,out ++ ev.data⟩) hlt (by rw [hev.out]; exact hfe.out) ⟨rfl,⟨hk4,hn6⟩⟩ (by show (out ++ ev.data).length ≤ out.length + 200000; rw [List.length_append]; omega) ho9.out (Blk.grown8 hFx.out hg9.out (Own.ne hOx.out hFx.out (by decide))) (hBx.out.trans (below_grown hOx.out hg9.out hBs)))⟩
         case measure => simp [intOf]; omega
     ·have k3 : ev.kind = 3:=by omega
      have q2 : ((ev.kind : Int) == 2) = false:=by rw [k3]; rfl
      have hfe0 : Cn.fev ⟨true,false,kk,nn,out⟩ ev = (if kk = 3 then (if (okL ev.tr && fitL ev.tr) = true then (0,⟨false,false,kk,nn,out ++ lastB ev.tr⟩) else (34,⟨true,false,kk,nn,out⟩)) else if kk = 2 ∧ 0 < nn then (30,⟨true,false,kk,nn,out⟩) else if ev.tr ≠ [] then (34,⟨true,false,kk,nn,out⟩) else (0,⟨false,decide (kk = 4),kk,nn,out⟩)):=by
       exact Cn.fev_end k3 rfl rfl
      clear hkd; replace k1:=Hj k1; replace k2:=Hj k2; replace k3:=Hj k3; by_cases h3 : kk = 3
      ·have qk : ((kk : Int) == 3) = true:=by rw [h3]; rfl
       rw [if_pos h3] at hfe0
       have hC:=Hj (last_any ev.tr (.slice At ev.tr.length ct) w2 hT2.out htr.out (by omega)); by_cases hol : (okL ev.tr && fitL ev.tr) = true
       ·rw [if_pos hol] at hfe0
        have hll2:=lastB_len hol; unfold LastR at hC
        rw [hol] at hC
        simp only [if_true] at hC
        rw [errV_zero] at hC
        have hfe:=Hj hfe0; clear hfe0; replace h3:=Hj h3; replace hol:=Hj hol; go_wp2_with fail
        refine hC.out.mono ?_
        rintro e w3 ⟨v3,rfl,ho3,hb3⟩
        have hB3:=Hj (hBx.out.trans (hb3.mono hBs)); have hO3:=Hj (own_below hOx.out hb3); have hF3:=Hj (hFx.out.below hb3); have hs3 : w.heap.size ≤ w3.heap.size:=by have:=hb3.size; omega
        generalize lastB ev.tr = cb at *; obtain ⟨Av,cv,rfl,-,-,-⟩:=id ho3.rd; have hRv:=Hj ho3.rd; clear hC ho3 hb3 m0 m1 m2 m3 m6 m7 f0 f1 z0 z1; have hMl : (cb).length ≤ 200000:=by omega
        go_wp2_with (at_builtin; refine step_push8W (B:=w.heap.size) (L:=out) (M:=cb) _ _ (by rfl) rfl (by rfl) hO3.out (by rfl) hRv.out (by omega) hs3 ?_; intro v9 w9 ho9 hg9 hat9; replace ho9:=Hj ho9; replace hg9:=Hj hg9; clear hat9)
        go_roundw
        case rel => exact ⟨k + 1,⟨false,false,kk,nn,out ++ cb⟩,by go_num,by omega,rfl,rfl,Hj (hI.out.next (s':=⟨false,false,kk,nn,out ++ cb⟩) hlt (by rw [hev.out]; exact hfe.out) ⟨rfl,⟨hk4,hn6⟩⟩ (by show (out ++ cb).length ≤ out.length + 200000; rw [List.length_append]; omega) ho9.out (Blk.grown8 hF3.out hg9.out (Own.ne hO3.out hF3.out (by decide))) (hB3.out.trans (below_grown hO3.out hg9.out hs3)))⟩
        case measure => simp [intOf]; omega
       ·rw [if_neg hol] at hfe0
        unfold LastR at hC
        rw [Bool.eq_false_iff.2 hol] at hC
        simp only [Bool.false_eq_true,if_false] at hC
        rw [herr_ne (by decide)] at hC
        have hfe:=Hj hfe0; clear hfe0; replace h3:=Hj h3; replace hol:=Hj hol; go_wp2_with fail
        refine hC.out.mono ?_
        rintro e w3 ⟨v3,rfl,ho3,hb3⟩
        have hB3:=Hj (hBx.out.trans (hb3.mono hBs)); clear hC ho3 hb3 m0 m1 m2 m3 m6 m7 f0 f1 z0 z1; go_wp2; go_ret2
        exact Cn.FmtR.bad (hI.out.stop hlt (by rw [hev.out]; exact hfe.out) (by decide)) (by decide) hB3.out
      ·have qk : ((kk : Int) == 3) = false:=by simp; omega
       rw [if_neg h3] at hfe0
       by_cases h2 : kk = 2 ∧ 0 < nn
       ·rw [if_pos h2] at hfe0
        have qk2 : ((kk : Int) == 2) = true:=by rw [h2.1]; rfl
        have qn : (0 : Int) < (nn : Int):=by have:=h2.2; omega
        have hfe:=Hj hfe0; clear hfe0; replace h2:=Hj h2; go_wp2; go_ret2
        exact Cn.FmtR.bad (hI.out.stop hlt (by rw [hev.out]; exact hfe.out) (by decide)) (by decide) hBx.out
       ·rw [if_neg h2] at hfe0
        by_cases htn : ev.tr = []
        ·have hfe : Cn.fev ⟨true,false,kk,nn,out⟩ ev = (0,⟨false,false,kk,nn,out ++ []⟩):=by rw [hfe0,if_neg (fun h => h htn),decide_eq_false hk4,List.append_nil]
         have htl0 : ¬ (0 < ev.tr.length):=by rw [htn]; decide
         have qk4 : ((kk : Int) == 4) = false:=by simp; omega
         replace hfe:=Hj hfe; replace hfe0:=Hj hfe0; replace htn:=Hj htn; by_cases h22 : kk = 2
         ·have qk2 : ((kk : Int) == 2) = true:=by rw [h22]; rfl
          have qn : ¬ (0 : Int) < (nn : Int):=by have:=fun h => h2 ⟨h22,h⟩; omega
          replace h22:=Hj h22; replace h2:=Hj h2; go_wp2_with fail
          go_quiet (fail)
          have hbq:=below_drewN (Below.refl w2.heap.size w2) nq; have hOq:=Hj (own_below hOx.out hbq); have hFq:=Hj (hFx.out.below hbq); have hBq:=Hj (hBx.out.trans (hbq.mono hBs)); have hsq : w.heap.size ≤ (w2.drewN nq).heap.size:=Nat.le_trans hBs hbq.size
          clear hbq m0 m1 m2 m3 m6 m7 f0 f1 z0 z1 hD2 hR2 hT2; generalize w2.drewN nq = w3 at *; have hRn:=Hj (Rd.nil w3 1 : Rd w3 1 (.slice none 0 0) ([] : List UInt8).length (u8s [])); have hMl : (([] : List UInt8)).length ≤ 200000:=Nat.zero_le _
          go_wp2_with (at_builtin; refine step_push8W (B:=w.heap.size) (L:=out) (M:=([] : List UInt8)) _ _ (by rfl) rfl (by rfl) hOq.out (by rfl) hRn.out (by omega) hsq ?_; intro v9 w9 ho9 hg9 hat9; replace ho9:=Hj ho9; replace hg9:=Hj hg9; clear hat9)
          go_roundw
          case rel => exact ⟨k + 1,⟨false,false,kk,nn,out ++ []⟩,by go_num,by omega,rfl,rfl,Hj (hI.out.next (s':=⟨false,false,kk,nn,out ++ []⟩) hlt (by rw [hev.out]; exact hfe.out) ⟨rfl,⟨hk4,hn6⟩⟩ (by show (out ++ ([] : List UInt8)).length ≤ out.length + 200000; rw [List.length_append]; omega) ho9.out (Blk.grown8 hFq.out hg9.out (Own.ne hOq.out hFq.out (by decide))) (hBq.out.trans (below_grown hOq.out hg9.out hsq)))⟩
          case measure => simp [intOf]; omega
         ·have qk2 : ((kk : Int) == 2) = false:=by simp; omega
          replace h22:=Hj h22; replace h2:=Hj h2; go_wp2_with fail
          go_quiet (fail)
          have hbq:=below_drewN (Below.refl w2.heap.size w2) nq; have hOq:=Hj (own_below hOx.out hbq); have hFq:=Hj (hFx.out.below hbq); have hBq:=Hj (hBx.out.trans (hbq.mono hBs)); have hsq : w.heap.size ≤ (w2.drewN nq).heap.size:=Nat.le_trans hBs hbq.size
          clear hbq m0 m1 m2 m3 m6 m7 f0 f1 z0 z1 hD2 hR2 hT2; generalize w2.drewN nq = w3 at *; have hRn:=Hj (Rd.nil w3 1 : Rd w3 1 (.slice none 0 0) ([] : List UInt8).length (u8s [])); have hMl : (([] : List UInt8)).length ≤ 200000:=Nat.zero_le _
          go_wp2_with (at_builtin; refine step_push8W (B:=w.heap.size) (L:=out) (M:=([] : List UInt8)) _ _ (by rfl) rfl (by rfl) hOq.out (by rfl) hRn.out (by omega) hsq ?_; intro v9 w9 ho9 hg9 hat9; replace ho9:=Hj ho9; replace hg9:=Hj hg9; clear hat9)
          go_roundw
          case rel => exact ⟨k + 1,⟨false,false,kk,nn,out ++ []⟩,by go_num,by omega,rfl,rfl,Hj (hI.out.next (s':=⟨false,false,kk,nn,out ++ []⟩) hlt (by rw [hev.out]; exact hfe.out) ⟨rfl,⟨hk4,hn6⟩⟩ (by show (out ++ ([] : List UInt8)).length ≤ out.length + 200000; rw [List.length_append]; omega) ho9.out (Blk.grown8 hFq.out hg9.out (Own.ne hOq.out hFq.out (by decide))) (hBq.out.trans (below_grown hOq.out hg9.out hsq)))⟩
          case measure => simp [intOf]; omega
        ·rw [if_pos htn] at hfe0
         have htl0 : 0 < ev.tr.length:=List.length_pos_iff.2 htn
         have hfe:=Hj hfe0; clear hfe0; replace htn:=Hj htn; by_cases h22 : kk = 2
         ·have qk2 : ((kk : Int) == 2) = true:=by rw [h22]; rfl
          have qn : ¬ (0 : Int) < (nn : Int):=by have:=fun h => h2 ⟨h22,h⟩; omega
          replace h22:=Hj h22; replace h2:=Hj h2; go_wp2; go_ret2
          exact Cn.FmtR.bad (hI.out.stop hlt (by rw [hev.out]; exact hfe.out) (by decide)) (by decide) hBx.out
         ·have qk2 : ((kk : Int) == 2) = false:=by simp; omega
          replace h22:=Hj h22; replace h2:=Hj h2; go_wp2; go_ret2
          exact Cn.FmtR.bad (hI.out.stop hlt (by rw [hev.out]; exact hfe.out) (by decide)) (by decide) hBx.out
  ·obtain rfl : k = l.length:=by omega
   have hfin : Cn.fmt Cn.fs0 l = (0,⟨op,false,kk,nn,out⟩):=by rw [hI.out.eq,List.drop_of_length_le (Nat.le_refl _)]; rfl
   replace hB:=Hj hB; go_wp2; go_ret2
   exact ⟨_,by rw [hfin]; rfl,fun _ => by rw [hfin]; exact hI.out.own,hB.out⟩
end Go.Proofs.YtjffffpfejmoiaaGreatDoor
