import Derived.Test.YtjffffpfejmoiaaGreatDoorGNu
import Derived.Test.YtjffffpfejmoiaaGreatDoorGXb
import Derived.Test.YtjffffpfejmoiaaGreatDoorCIn
import Derived.Deep.DeepAppendWide
namespace Go.Proofs.YtjffffpfejmoiaaGreatDoor
open Go.RowKit Syn Hd Fr Ck
theorem push_field {ops : Array Oper} {rest : List Oper} {o : Oper} {a : Act} {Q : Exit → Act → World → Prop} {w : World} (s x : Operand)
  (hgd : o.guard = none) (ho : o.op = .call { callee:=.builtin .append,args:=#[s,x],argTypes:=#[28,28] })
  {B n : Nat} {v u1 u2 : Value} {xs : List Value} (hs : a.eval s = v) (hown : Own w B 26 2 v n xs) (hx : a.eval x = .slice (some ⟨w.heap.size,0,none⟩) 1 1)
  (h1 : u1.oneCell' = true) (h2 : u2.oneCell' = true) (hn : n < 4398046511200) (hbase : B ≤ w.heap.size)
  (h : ∀ v' w',Own w' B 26 2 v' (n + 1) (xs ++ [u1,u2]) → Below B w w' → wpList Tryz.prog ops Q rest (a.put o.dst v') w') : wpList Tryz.prog ops Q (o :: rest) a (w.alloc (.cells #[u1,u2] 26)):=by
 have hi:=infoCF; cases hP : Tryz.prog.info? 26 with
 | none => rw [hP] at hi; cases hi
 | some i =>
  rw [hP] at hi
  simp only [Option.map_some,Option.some.injEq,Prod.mk.injEq] at hi
  obtain ⟨hz,hsize,hbytes⟩:=hi
  have hown2 : Own (w.alloc (.cells #[u1,u2] 26)) B 26 2 v n xs:=hown.alloc _
  refine wpList_append_own_wide _ hgd s x 28 ho B 26 i _ 2 32 Tryz.underlying28 hP hz hsize hbytes rfl (by decide) v n xs hs hown2 ⟨w.heap.size,0,none⟩ 1 1 [u1,u2] hx rfl (fun j u hj => ?_) (fun u hu => ?_) (by unfold maxLen; omega) (by omega) (by rw [alloc_size']; omega) ?_
  ·have hb:=(Blk.new w 26 #[u1,u2]).cell j
   have hadd : (⟨w.heap.size,0,none⟩ : Addr).add j = ⟨w.heap.size,j,none⟩:=by unfold Addr.add; split <;> simp_all
   rw [hadd,hb]; simpa using hj
  ·rw [List.mem_cons,List.mem_singleton] at hu
   rcases hu with rfl | rfl
   ·exact h1
   ·exact h2
  ·intro v' w' hown' hg _
   exact h v' w' hown' ((Below.alloc (Below.refl B w) hbase _).trans (below_grown hown2 hg (by rw [alloc_size']; omega)))
namespace Cn
theorem kept_take {l : Flds} {k : Nat} (h : k < l.length) : (l.take (k + 1)).filter kept = (l.take k).filter kept ++ (if kept l[k] = true then [l[k]] else []):=by
 rw [List.take_succ_eq_append_getElem h,List.filter_append]
 congr 1
 cases hk : kept l[k] <;> simp [hk]
theorem kept_len (l : Flds) (k : Nat) : ((l.take k).filter kept).length ≤ k:=by
 have h1:=List.length_filter_le kept (l.take k); rw [List.length_take] at h1; omega
theorem mem_flat : ∀ {ps : List (List UInt8)} {p : List UInt8},p ∈ ps → p.length ≤ ps.flatten.length
 | q :: r,p,h => by
  rw [List.flatten_cons,List.length_append]
  rcases List.mem_cons.1 h with rfl | h
  ·omega
  ·have:=mem_flat h; omega
def PtV (w : World) (P : List (List UInt8)) (vs : List Value) : Prop:=vs.length = P.length ∧ ∀ i (h : i < P.length),∃ Ai ci,vs[i]? = some (.slice Ai P[i].length ci) ∧ Rd w 1 (.slice Ai P[i].length ci) P[i].length (u8s P[i])
theorem PtV.below {w w' : World} {P : List (List UInt8)} {vs : List Value} (h : PtV w P vs) (hb : Below w.heap.size w w') : PtV w' P vs :=
 ⟨h.1,fun i hi => by obtain ⟨Ai,ci,h1,h2⟩:=h.2 i hi; exact ⟨Ai,ci,h1,h2.below hb⟩⟩
theorem PtV.push {w : World} {P : List (List UInt8)} {vs : List Value} (h : PtV w P vs) {p : List UInt8} {A : Option Addr} {c N : Nat} (hR : Rd w 1 (.slice A p.length c) p.length (u8s p)) (hl : p.length = N) : PtV w (P ++ [p]) (vs ++ [.slice A N c]):=by
 subst hl; refine ⟨by rw [List.length_append,List.length_append,h.1]; rfl,fun i hi => ?_⟩
 rw [List.length_append,List.length_singleton] at hi
 by_cases hlt : i < P.length
 ·obtain ⟨Ai,ci,h1,h2⟩:=h.2 i hlt
  rw [List.getElem_append_left hlt,List.getElem?_append_left (by rw [h.1]; exact hlt)]
  exact ⟨Ai,ci,h1,h2⟩
 ·have e : i = P.length:=by omega
  subst e; rw [List.getElem_append_right (Nat.le_refl _),List.getElem?_append_right (by rw [h.1]; exact Nat.le_refl _),h.1]
  simp only [Nat.sub_self,List.getElem_cons_zero,List.getElem?_cons_zero]
  exact ⟨A,c,rfl,hR⟩
theorem parts_of {w : World} {B : Nat} {t : TypeId} {v : Value} {P : List (List UInt8)} {vs : List Value} (h : Own w B t 1 v P.length vs) (hp : PtV w P vs) : Parts w v P:=by
 obtain ⟨A,cap,rfl,hc,-,hr⟩:=Rd.own h
 refine ⟨A,cap,rfl,hc,fun hn => ?_⟩
 obtain ⟨b,o,e,hlt,hx⟩:=hr hn
 refine ⟨b,o,e,hlt,fun i hi => ?_⟩
 obtain ⟨Ai,ci,h1,h2⟩:=hp.2 i hi
 exact ⟨Ai,ci,hx i _ h1,h2⟩
end Cn
theorem infoBB : (Tryz.prog.info? 23).map (fun i => (i.zero,i.size,i.bytes)) = some (some (.slice none 0 0),1,24):=by kernel_rfl
theorem push_bs {ops : Array Oper} {rest : List Oper} {o : Oper} {a : Act} {Q : Exit → Act → World → Prop} {w : World} (s x : Operand)
  (hgd : o.guard = none) (ho : o.op = .call { callee:=.builtin .append,args:=#[s,x],argTypes:=#[84,84] })
  {B n : Nat} {v u : Value} {xs : List Value} (hs : a.eval s = v) (hown : Own w B 23 1 v n xs) (hx : a.eval x = .slice (some ⟨w.heap.size,0,none⟩) 1 1)
  (h1 : u.oneCell' = true) (hn : n < 1000000000) (hbase : B ≤ w.heap.size)
  (h : ∀ v' w',Own w' B 23 1 v' (n + 1) (xs ++ [u]) → Below B w w' → wpList Tryz.prog ops Q rest (a.put o.dst v') w') : wpList Tryz.prog ops Q (o :: rest) a (w.alloc (.cells #[u] 23)):=by
 refine step_push 84 23 (.slice none 0 0) 1 24 s x hgd ho Tryz.underlying84 infoBB rfl (by decide) (by decide) hs (hown.alloc _) hx (news:=[u]) rfl (fun j u' hj => ?_) (fun u' hu => ?_) (by omega) (by rw [alloc_size']; omega) ?_
 ·have hb:=(Blk.new w 23 #[u]).cell j
  have hadd : (⟨w.heap.size,0,none⟩ : Addr).add j = ⟨w.heap.size,j,none⟩:=by unfold Addr.add; split <;> simp_all
  rw [hadd,hb]; simpa using hj
 ·obtain rfl:=List.mem_singleton.1 hu; exact h1
 ·intro v' w' hown' hb _
  exact h v' w' hown' ((Below.alloc (Below.refl B w) hbase _).trans hb)
set_option maxRecDepth 100000 in
set_option maxHeartbeats 16000000 in
theorem msg_any (M : Cn.Msg) (Af Ab As : Option Addr) (cf cb cs : Nat) (w : World) (hF : Rd w 2 (.slice Af M.fl.length cf) M.fl.length (prs M.fl)) (hbd : Rd w 1 (.slice Ab M.body.length cb) M.body.length (u8s M.body)) (hsz : Rd w 1 (.slice As M.sz.length cs) M.sz.length (u8s M.sz))
  (hm : M.m.length ≤ 140737488355328) (ht : M.t.length ≤ 140737488355328) (hfl : ∀ p ∈ M.fl,p.1.length ≤ 140737488355328 ∧ p.2.length ≤ 140737488355328) (hfn : M.fl.length ≤ 4398046511104) (hbl : M.body.length ≤ 300) (hsl : M.sz.length ≤ 140737488355328) (hT : w.cell? ⟨5,15,none⟩ = some (.int .u8 4)) :
  Calls Tryz.prog 13 #[.agg #[.string (str M.m),.string (str M.t),.slice Af M.fl.length cf,.slice Ab M.body.length cb,.bool M.ch,.slice As M.sz.length cs]] w fun e w' => ∃ o,e = .returned o ∧ OwnM w' w.heap.size o (Cn.mB M) ∧ Below w.heap.size w w' ∧ (wqE M.m M.t (Cn.mf M) ≠ 0 → o = .slice none 0 0):=by
 have hT5 : 5 < w.heap.size:=cell_lt hT
 have hK:=Blk.new w 46 #[.string (str M.m),.string (str M.t),.slice Af M.fl.length cf,.slice Ab M.body.length cb,.bool M.ch,.slice As M.sz.length cs]; have hB0:=(Below.refl w.heap.size w).alloc (Nat.le_refl _) (.cells #[.string (str M.m),.string (str M.t),.slice Af M.fl.length cf,.slice Ab M.body.length cb,.bool M.ch,.slice As M.sz.length cs] 46); have hF0:=hF.below hB0; obtain ⟨G,hG⟩ : ∃ G,w.heap.size = G:=⟨_,rfl⟩
 replace hF:=Hj hF; replace hbd:=Hj hbd; replace hsz:=Hj hsz; replace hfl:=Hj hfl; replace hT:=Hj hT; generalize hch : M.ch = ch at *; replace hch:=Hj hch; go_enter Tryz.func13,Tryz.ntmps13
 rw [hG] at hK
 go_upto_region 2 with (fail)
 generalize hw0 : w.alloc (.cells #[.string (str M.m),.string (str M.t),.slice Af M.fl.length cf,.slice Ab M.body.length cb,.bool ch,.slice As M.sz.length cs] 46) = w0 at *; clear hw0; have m0 : w0.cell? ⟨G,0,none⟩ = some (.string (str M.m)):=hK.cell 0
 have m1 : w0.cell? ⟨G,1,none⟩ = some (.string (str M.t)):=hK.cell 1
 have m2 : w0.cell? ⟨G,2,none⟩ = some (.slice Af M.fl.length cf):=hK.cell 2
 have m3 : w0.cell? ⟨G,3,none⟩ = some (.slice Ab M.body.length cb):=hK.cell 3
 have m4 : w0.cell? ⟨G,4,none⟩ = some (.bool ch):=hK.cell 4
 have m5 : w0.cell? ⟨G,5,none⟩ = some (.slice As M.sz.length cs):=hK.cell 5
 have hB0s:=hB0.size; have hGl:=hK.lt; replace hK:=Hj hK; replace hB0:=Hj hB0; replace hF0:=Hj hF0; go_wp2; go_loopw [3,18] (fun o i wr => ∃ k : Nat,i = .int .i64 (k : Int) ∧ k ≤ M.fl.length ∧ Hid (Own wr w0.heap.size 26 2 o ((M.fl.take k).filter Cn.kept).length (prs ((M.fl.take k).filter Cn.kept))) ∧ Hid (Below w0.heap.size w0 wr)) (fun _ i _ => M.fl.length - (intOf i).toNat)
 case atStart => exact ⟨0,rfl,Nat.zero_le _,Hj (own_nil _ _ _ _),Hj (Below.refl _ _)⟩
 case round =>
  clear m0 m1 m2 m3 m4 m5; obtain ⟨k,rfl,hk,ho,hB⟩:=hrel
  have hBw:=hB.out.size; by_cases hlt : k < M.fl.length
  ·obtain ⟨A',cap',e',-,-,r'⟩:=hF0.out.below hB.out
   cases e'; obtain ⟨b1,o1,rfl,_,x1⟩:=r' (by omega)
   have d1 : wr.cell? ⟨b1,o1 + k * 2,none⟩ = some (.string (str M.fl[k].1)):=x1 _ _ (prs_at0 hlt)
   have d2 : wr.cell? ⟨b1,o1 + k * 2 + 1,none⟩ = some (.string (str M.fl[k].2)):=x1 _ _ (prs_at1 hlt)
   have htk:=Cn.kept_take hlt; have hle:=Cn.kept_len M.fl k; have hszk:=hfl.out M.fl[k] (List.getElem_mem hlt); clear x1 r'; generalize M.fl[k] = p at *; obtain ⟨nm,vl⟩:=p
   simp only at d1 d2 hszk
   generalize (M.fl.take k).filter Cn.kept = L at *; have hN:=Hj (fun w => fname_big (str nm) w (by rw [str_size]; omega))
   rw [bs_str] at hN
   have hkd : Cn.kept (nm,vl) = (decide (nmE nm = 0) && (decide (nmV nm ≠ Fr.cl) && (decide (nmV nm ≠ Fr.te) && decide (nmV nm ≠ hostN)))):=rfl
   go_wp2_with fail
   have hX:=Blk.new wr 26 #[.string (str nm),.string (str vl)]; have hbx:=(Below.refl wr.heap.size wr).alloc (Nat.le_refl _) (.cells #[.string (str nm),.string (str vl)] 26); obtain ⟨g,hg⟩ : ∃ g,wr.heap.size = g:=⟨_,rfl⟩
   rw [hg] at hX ⊢
   generalize wr.alloc (.cells #[.string (str nm),.string (str vl)] 26) = w1 at *; clear hg; have hB1:=hB.out.trans (hbx.mono hBw); have ho1:=own_below ho.out hbx; clear hbx d1 d2; refine (hN.out _).mono ?_
   rintro e w2 ⟨rfl,hb2⟩
   have hB2:=Hj (hB1.trans (hb2.mono hB1.size)); have ho2:=Hj (own_below ho1 hb2); have hX2:=hX.below hb2; have c0 : w2.cell? ⟨g,0,none⟩ = some (.string (str nm)):=hX2.cell 0
   have c1 : w2.cell? ⟨g,1,none⟩ = some (.string (str vl)):=hX2.cell 1
   have hB2s:=hB2.out.size; clear hX hX2 hb2 ho1 hB1 hN; replace htk:=Hj htk; by_cases k1 : nmE nm = 0
   ·rw [k1,errV_zero]
    by_cases a1 : nmV nm = Fr.cl
    ·have p1 : (str (nmV nm)).toList = [99,111,110,116,101,110,116,45,108,101,110,103,116,104]:=by rw [str_toList,a1]; rfl
     have hkf:=Hj (show Cn.kept (nm,vl) = false by rw [hkd]; simp [a1])
     clear hkd; replace k1:=Hj k1; try replace a2:=Hj a2
     try replace a3:=Hj a3
     replace a1:=Hj a1; go_wp2; go_roundw
     case rel => exact ⟨k + 1,by go_num,by omega,Hj (by rw [htk.out,if_neg (by rw [hkf.out]; decide),List.append_nil]; exact ho2.out),hB2⟩
     case measure => simp [intOf]; omega
    ·have p1 : ¬ (str (nmV nm)).toList = [99,111,110,116,101,110,116,45,108,101,110,103,116,104]:=by rw [str_toList]; exact a1
     by_cases a2 : nmV nm = Fr.te
     ·have p2 : (str (nmV nm)).toList = [116,114,97,110,115,102,101,114,45,101,110,99,111,100,105,110,103]:=by rw [str_toList,a2]; rfl
      have a1:=a2; have hkf:=Hj (show Cn.kept (nm,vl) = false by rw [hkd]; simp [a1])
      clear hkd; replace k1:=Hj k1; try replace a2:=Hj a2
      try replace a3:=Hj a3
      replace a1:=Hj a1; go_wp2; go_roundw
      case rel => exact ⟨k + 1,by go_num,by omega,Hj (by rw [htk.out,if_neg (by rw [hkf.out]; decide),List.append_nil]; exact ho2.out),hB2⟩
      case measure => simp [intOf]; omega
     ·have p2 : ¬ (str (nmV nm)).toList = [116,114,97,110,115,102,101,114,45,101,110,99,111,100,105,110,103]:=by rw [str_toList]; exact a2
      by_cases a3 : nmV nm = hostN
      ·have p3 : (str (nmV nm)).toList = [104,111,115,116]:=by rw [str_toList,a3]; rfl
       have a1:=a3; have hkf:=Hj (show Cn.kept (nm,vl) = false by rw [hkd]; simp [a1])
       clear hkd; replace k1:=Hj k1; try replace a2:=Hj a2
       try replace a3:=Hj a3
       replace a1:=Hj a1; go_wp2; go_roundw
       case rel => exact ⟨k + 1,by go_num,by omega,Hj (by rw [htk.out,if_neg (by rw [hkf.out]; decide),List.append_nil]; exact ho2.out),hB2⟩
       case measure => simp [intOf]; omega
      ·have p3 : ¬ (str (nmV nm)).toList = [104,111,115,116]:=by rw [str_toList]; exact a3
       have q1:=beq_false_of_ne p1; have q2:=beq_false_of_ne p2; have q3:=beq_false_of_ne p3; have hkt:=Hj (show Cn.kept (nm,vl) = true by rw [hkd]; simp [k1,a1,a2,a3])
       clear hkd; replace k1:=Hj k1; replace a1:=Hj a1; replace a2:=Hj a2; replace a3:=Hj a3; go_wp2_with (at_builtin; refine push_field _ _ rfl rfl rfl ho2.out rfl rfl rfl (by omega) hB2s ?_; intro v7 w7 ho7 hb7; replace ho7:=Hj ho7; have hB7:=Hj (hB2.out.trans hb7); clear hb7)
       go_roundw
       case rel => exact ⟨k + 1,by go_num,by omega,Hj (by rw [htk.out,if_pos hkt.out,List.length_append,prs_snoc]; exact ho7.out),hB7⟩
       case measure => simp [intOf]; omega
   ·rw [herr_ne k1]
    have hkf:=Hj (show Cn.kept (nm,vl) = false by rw [hkd]; simp [k1])
    clear hkd; replace k1:=Hj k1
    go_wp2; go_roundw
    case rel => exact ⟨k + 1,by go_num,by omega,Hj (by rw [htk.out,if_neg (by rw [hkf.out]; decide),List.append_nil]; exact ho2.out),hB2⟩
    case measure => simp [intOf]; omega
  ·obtain rfl : k = M.fl.length:=by omega
   rw [List.take_length] at ho
   have hL0 : (M.fl.filter Cn.kept).length ≤ M.fl.length:=List.length_filter_le _ _
   have hKr:=Hj (hK.out.below hB.out); have hBw0:=hB0; have m4 : wr.cell? ⟨G,4,none⟩ = some (.bool ch):=hKr.out.cell 4
   have m3 : wr.cell? ⟨G,3,none⟩ = some (.slice Ab M.body.length cb):=hKr.out.cell 3
   have hLm : ∀ p ∈ M.fl.filter Cn.kept,p.1.length ≤ 140737488355328 ∧ p.2.length ≤ 140737488355328:=fun p hp => hfl.out p (List.mem_filter.1 hp).1
   have hmf : Cn.mf M = (M.fl.filter Cn.kept ++ [Cn.hostA]) ++ (if M.ch = true then [(Fr.te,Cn.chB)] else if M.body ≠ [] then [(Fr.cl,dg M.body.length)] else []):=rfl
   generalize M.fl.filter Cn.kept = L0 at *; replace hLm:=Hj hLm; replace hmf:=Hj hmf; go_upto_region 10 with (at_builtin; refine push_field _ _ rfl rfl rfl ho.out rfl rfl rfl (by omega) hBw ?_; intro v2 w2 ho2 hb2; replace ho2:=Hj ho2; replace hb2:=Hj hb2)
   have hBr2:=Hj (hB.out.trans hb2.out); have hK2 : Hid (Blk w2 G 46 #[.string (str M.m),.string (str M.t),.slice Af M.fl.length cf,.slice Ab M.body.length cb,.bool ch,.slice As M.sz.length cs]):=Hj (hK.out.below hBr2.out)
   have hBr2s:=hBr2.out.size; clear m3 m4 hKr ho hb2 hB hBw; have m4 : w2.cell? ⟨G,4,none⟩ = some (.bool ch):=hK2.out.cell 4
   have m3 : w2.cell? ⟨G,3,none⟩ = some (.slice Ab M.body.length cb):=hK2.out.cell 3
   cases ch
   ·by_cases hb0 : M.body = []
    ·have hmf2 : Cn.mf M = L0 ++ [Cn.hostA]:=by rw [hmf.out,hch.out,if_neg (by decide),if_neg (fun h => h hb0),List.append_nil]
     have hlen : (Cn.mf M).length = L0.length + 1:=by rw [hmf2,List.length_append]; rfl
     have hR5 : Rd w2 2 v2 (Cn.mf M).length (prs (Cn.mf M)):=by rw [hlen,hmf2,prs_snoc]; exact Rd.own ho2.out
     have hfs:=Hj (show ∀ p ∈ Cn.mf M,p.1.length ≤ 140737488355328 ∧ p.2.length ≤ 140737488355328 from fun p hp => by
      rw [hmf2] at hp
      rcases List.mem_append.1 hp with hp | hp
      ·exact hLm.out p hp
      ·obtain rfl:=List.mem_singleton.1 hp; exact ⟨by decide,by decide⟩)
     have hbl0 : ¬ (0 : Int) < (M.body.length : Int):=by rw [hb0]; decide
     have hK5:=hK2; have hB5:=hBr2; clear hmf hmf2 hLm ho2 m3 m4; replace hb0:=Hj hb0; have m4 : w2.cell? ⟨G,4,none⟩ = some (.bool false):=hK2.out.cell 4
     have m3 : w2.cell? ⟨G,3,none⟩ = some (.slice Ab M.body.length cb):=hK2.out.cell 3
     have hWq:=wreq_all M.m M.t (Cn.mf M) _ w2 (by omega) hR5 hfs.out (by omega); obtain ⟨Af5,cf5,rfl,-,-,-⟩:=id hR5; have hmE : Hid (wqE M.m M.t (Cn.mf M) ≠ 0 → Cn.mB M = []):=Hj (fun h => if_neg h)
     have hmO : Hid (wqE M.m M.t (Cn.mf M) = 0 → Cn.mB M = wqB M.m M.t (Cn.mf M) ++ Cn.mEnc M):=Hj (fun h => if_pos h)
     have hwl : Hid ((wqB M.m M.t (Cn.mf M)).length ≤ 8192):=Hj wqB_len
     replace hWq:=Hj hWq; replace hlen:=Hj hlen; have m0 : w2.cell? ⟨G,0,none⟩ = some (.string (str M.m)):=hK5.out.cell 0
     have m1 : w2.cell? ⟨G,1,none⟩ = some (.string (str M.t)):=hK5.out.cell 1
     go_wp2_with fail
     refine hWq.out.mono ?_
     rintro e w6 ⟨o6,rfl,ho6,hb6⟩
     have hB6:=Hj (hB5.out.trans (hb6.mono hB5.out.size)); have hK6:=Hj (hK5.out.below hb6); have hs56:=hb6.size; have hB5s:=hB5.out.size; clear m0 m1 hb6 hWq; by_cases hz : wqE M.m M.t (Cn.mf M) = 0
     ·rw [hz,errV_zero]
      have hmO2:=Hj (hmO.out hz); clear hmO hmE; replace hz:=Hj hz; generalize wqB M.m M.t (Cn.mf M) = T0 at *; obtain ⟨A6,c6,rfl,-,-,-⟩:=id ho6.rd; replace ho6:=Hj ho6; have m3 : w6.cell? ⟨G,3,none⟩ = some (.slice Ab M.body.length cb):=hK6.out.cell 3
      have m4 : w6.cell? ⟨G,4,none⟩ = some (.bool false):=hK6.out.cell 4
      have hbd6:=Hj (hbd.out.below (hBw0.out.trans (hB6.out.mono hBw0.out.size))); have hsz6:=Hj hB6.out.size; go_wp2_with (at_builtin; refine step_pushM _ _ rfl rfl M.body ho6.out rfl rfl rfl hbd6.out (by have:=hwl.out; omega) (by omega) ?_; intro v7 w7 ho7 hb7; replace ho7:=Hj ho7; replace hb7:=Hj hb7)
      go_ret; exact ⟨_,rfl,by rw [hmO2.out,show Cn.mEnc M = M.body from by unfold Cn.mEnc; rw [hch.out,if_neg (by decide)]]; exact ho7.out.base (by omega),hBw0.out.trans ((hB6.out.trans (hb7.out.mono (by omega))).mono hBw0.out.size),fun h => absurd hz.out h⟩
     ·rw [herr_ne hz]
      have hmE2:=Hj (hmE.out hz); clear hmO hmE; replace hz:=Hj hz; go_wp2; go_ret; exact ⟨_,rfl,by rw [hmE2.out]; exact .inl ⟨rfl,rfl⟩,hBw0.out.trans (hB6.out.mono hBw0.out.size),fun _ => rfl⟩
    ·have hbp : (0 : Int) < (M.body.length : Int):=by have:=List.length_pos_iff.2 hb0; omega
     have hD:=Hj (digits_top M.body.length (by omega) w2); have hdl : (dg M.body.length).length ≤ 5:=by
      unfold dg
      simp only [List.length_append,List.length_cons,List.length_nil]
      have:=dgp_len M.body.length 10000; have:=dgp_len M.body.length 1000; have:=dgp_len M.body.length 100; have:=dgp_len M.body.length 10
      omega
     have hmf2 : Cn.mf M = (L0 ++ [Cn.hostA]) ++ [(Fr.cl,dg M.body.length)]:=by rw [hmf.out,hch.out,if_neg (by decide),if_pos hb0]
     generalize dg M.body.length = D at *; replace hmf2:=Hj hmf2; replace hb0:=Hj hb0; clear hmf; go_wp2_with fail
     refine hD.out.mono ?_
     rintro e w3 ⟨rfl,hb3⟩
     have hB3:=Hj (hBr2.out.trans (hb3.mono hBr2s)); have hB3s:=hB3.out.size; have hK3 : Hid (Blk w3 G 46 #[.string (str M.m),.string (str M.t),.slice Af M.fl.length cf,.slice Ab M.body.length cb,.bool false,.slice As M.sz.length cs]):=Hj (hK2.out.below hb3)
     have ho3:=Hj (own_below ho2.out hb3); clear hD hb3 ho2 m3 m4; go_upto_region 14 with (at_builtin; refine push_field _ _ rfl rfl rfl ho3.out rfl rfl rfl (by omega) hB3s ?_; intro v4 w4 ho4 hb4; replace ho4:=Hj ho4; replace hb4:=Hj hb4)
     have hB4:=Hj (hB3.out.trans hb4.out); have hK4 : Hid (Blk w4 G 46 #[.string (str M.m),.string (str M.t),.slice Af M.fl.length cf,.slice Ab M.body.length cb,.bool false,.slice As M.sz.length cs]):=Hj (hK.out.below hB4.out)
     have hlen : (Cn.mf M).length = L0.length + 1 + 1:=by rw [hmf2.out,List.length_append,List.length_append]; rfl
     have hR5 : Rd w4 2 v4 (Cn.mf M).length (prs (Cn.mf M)):=by rw [hlen,hmf2.out,prs_snoc,prs_snoc]; exact Rd.own ho4.out
     have hfs:=Hj (show ∀ p ∈ Cn.mf M,p.1.length ≤ 140737488355328 ∧ p.2.length ≤ 140737488355328 from fun p hp => by
      rw [hmf2.out] at hp
      rcases List.mem_append.1 hp with hp | hp
      ·rcases List.mem_append.1 hp with hp | hp
       ·exact hLm.out p hp
       ·obtain rfl:=List.mem_singleton.1 hp; exact ⟨by decide,by decide⟩
      ·obtain rfl:=List.mem_singleton.1 hp; exact ⟨by show Fr.cl.length ≤ _; decide,by show D.length ≤ _; omega⟩)
     have hK5:=hK4; have hB5:=hB4; clear hmf2 hLm ho4 ho3; have hWq:=wreq_all M.m M.t (Cn.mf M) _ w4 (by omega) hR5 hfs.out (by omega); obtain ⟨Af5,cf5,rfl,-,-,-⟩:=id hR5; have hmE : Hid (wqE M.m M.t (Cn.mf M) ≠ 0 → Cn.mB M = []):=Hj (fun h => if_neg h)
     have hmO : Hid (wqE M.m M.t (Cn.mf M) = 0 → Cn.mB M = wqB M.m M.t (Cn.mf M) ++ Cn.mEnc M):=Hj (fun h => if_pos h)
     have hwl : Hid ((wqB M.m M.t (Cn.mf M)).length ≤ 8192):=Hj wqB_len
     replace hWq:=Hj hWq; replace hlen:=Hj hlen; have m0 : w4.cell? ⟨G,0,none⟩ = some (.string (str M.m)):=hK5.out.cell 0
     have m1 : w4.cell? ⟨G,1,none⟩ = some (.string (str M.t)):=hK5.out.cell 1
     go_wp2_with fail
     refine hWq.out.mono ?_
     rintro e w6 ⟨o6,rfl,ho6,hb6⟩
     have hB6:=Hj (hB5.out.trans (hb6.mono hB5.out.size)); have hK6:=Hj (hK5.out.below hb6); have hs56:=hb6.size; have hB5s:=hB5.out.size; clear m0 m1 hb6 hWq; by_cases hz : wqE M.m M.t (Cn.mf M) = 0
     ·rw [hz,errV_zero]
      have hmO2:=Hj (hmO.out hz); clear hmO hmE; replace hz:=Hj hz; generalize wqB M.m M.t (Cn.mf M) = T0 at *; obtain ⟨A6,c6,rfl,-,-,-⟩:=id ho6.rd; replace ho6:=Hj ho6; have m3 : w6.cell? ⟨G,3,none⟩ = some (.slice Ab M.body.length cb):=hK6.out.cell 3
      have m4 : w6.cell? ⟨G,4,none⟩ = some (.bool false):=hK6.out.cell 4
      have hbd6:=Hj (hbd.out.below (hBw0.out.trans (hB6.out.mono hBw0.out.size))); have hsz6:=Hj hB6.out.size; go_wp2_with (at_builtin; refine step_pushM _ _ rfl rfl M.body ho6.out rfl rfl rfl hbd6.out (by have:=hwl.out; omega) (by omega) ?_; intro v7 w7 ho7 hb7; replace ho7:=Hj ho7; replace hb7:=Hj hb7)
      go_ret; exact ⟨_,rfl,by rw [hmO2.out,show Cn.mEnc M = M.body from by unfold Cn.mEnc; rw [hch.out,if_neg (by decide)]]; exact ho7.out.base (by omega),hBw0.out.trans ((hB6.out.trans (hb7.out.mono (by omega))).mono hBw0.out.size),fun h => absurd hz.out h⟩
     ·rw [herr_ne hz]
      have hmE2:=Hj (hmE.out hz); clear hmO hmE; replace hz:=Hj hz; go_wp2; go_ret; exact ⟨_,rfl,by rw [hmE2.out]; exact .inl ⟨rfl,rfl⟩,hBw0.out.trans (hB6.out.mono hBw0.out.size),fun _ => rfl⟩
   ·have hmf2 : Cn.mf M = (L0 ++ [Cn.hostA]) ++ [(Fr.te,Cn.chB)]:=by rw [hmf.out,hch.out,if_pos rfl]
    replace hmf2:=Hj hmf2; clear hmf; go_upto_region 14 with (at_builtin; refine push_field _ _ rfl rfl rfl ho2.out rfl rfl rfl (by omega) hBr2s ?_; intro v4 w4 ho4 hb4; replace ho4:=Hj ho4; replace hb4:=Hj hb4)
    have hB4:=Hj (hBr2.out.trans hb4.out); have hK4 : Hid (Blk w4 G 46 #[.string (str M.m),.string (str M.t),.slice Af M.fl.length cf,.slice Ab M.body.length cb,.bool true,.slice As M.sz.length cs]):=Hj (hK.out.below hB4.out)
    have hlen : (Cn.mf M).length = L0.length + 1 + 1:=by rw [hmf2.out,List.length_append,List.length_append]; rfl
    have hR5 : Rd w4 2 v4 (Cn.mf M).length (prs (Cn.mf M)):=by rw [hlen,hmf2.out,prs_snoc,prs_snoc]; exact Rd.own ho4.out
    have hfs:=Hj (show ∀ p ∈ Cn.mf M,p.1.length ≤ 140737488355328 ∧ p.2.length ≤ 140737488355328 from fun p hp => by
     rw [hmf2.out] at hp
     rcases List.mem_append.1 hp with hp | hp
     ·rcases List.mem_append.1 hp with hp | hp
      ·exact hLm.out p hp
      ·obtain rfl:=List.mem_singleton.1 hp; exact ⟨by decide,by decide⟩
     ·obtain rfl:=List.mem_singleton.1 hp; exact ⟨by decide,by decide⟩)
    have hK5:=hK4; have hB5:=hB4; clear hmf2 hLm ho4 ho2 m3 m4; have hWq:=wreq_all M.m M.t (Cn.mf M) _ w4 (by omega) hR5 hfs.out (by omega); obtain ⟨Af5,cf5,rfl,-,-,-⟩:=id hR5; have hmE : Hid (wqE M.m M.t (Cn.mf M) ≠ 0 → Cn.mB M = []):=Hj (fun h => if_neg h)
    have hmO : Hid (wqE M.m M.t (Cn.mf M) = 0 → Cn.mB M = wqB M.m M.t (Cn.mf M) ++ Cn.mEnc M):=Hj (fun h => if_pos h)
    have hwl : Hid ((wqB M.m M.t (Cn.mf M)).length ≤ 8192):=Hj wqB_len
    replace hWq:=Hj hWq; replace hlen:=Hj hlen; have m0 : w4.cell? ⟨G,0,none⟩ = some (.string (str M.m)):=hK5.out.cell 0
    have m1 : w4.cell? ⟨G,1,none⟩ = some (.string (str M.t)):=hK5.out.cell 1
    go_wp2_with fail
    refine hWq.out.mono ?_
    rintro e w6 ⟨o6,rfl,ho6,hb6⟩
    have hB6:=Hj (hB5.out.trans (hb6.mono hB5.out.size)); have hK6:=Hj (hK5.out.below hb6); have hs56:=hb6.size; have hB5s:=hB5.out.size; clear m0 m1 hb6 hWq; by_cases hz : wqE M.m M.t (Cn.mf M) = 0
    ·rw [hz,errV_zero]
     have hmO2:=Hj (hmO.out hz); clear hmO hmE; replace hz:=Hj hz; generalize wqB M.m M.t (Cn.mf M) = T0 at *; obtain ⟨A6,c6,rfl,-,-,-⟩:=id ho6.rd; replace ho6:=Hj ho6; have m3 : w6.cell? ⟨G,3,none⟩ = some (.slice Ab M.body.length cb):=hK6.out.cell 3
     have m4 : w6.cell? ⟨G,4,none⟩ = some (.bool true):=hK6.out.cell 4
     have m5 : w6.cell? ⟨G,5,none⟩ = some (.slice As M.sz.length cs):=hK6.out.cell 5
     have hBw6:=Hj (hBw0.out.trans (hB6.out.mono hBw0.out.size)); have hBw6s:=hBw6.out.size; go_wp2; go_loopw [10,11,12] (fun pv rv i wr => ∃ (n : Nat) (r : List UInt8) (A : Option Addr) (cp : Nat) (P : List (List UInt8)) (vs : List Value),i = .int .i64 (n : Int) ∧ n + r.length ≤ M.body.length ∧ rv = .slice A r.length cp ∧ Hid (Rd w 1 (.slice A r.length cp) r.length (u8s r)) ∧ Hid (P ++ Cn.cuts r (M.sz.drop n) = Cn.cuts M.body M.sz) ∧ P.length ≤ n ∧ Hid (Own wr w6.heap.size 23 1 pv P.length vs) ∧ Hid (Cn.PtV w P vs) ∧ Hid (Below w6.heap.size w6 wr)) (fun _ rv _ _ => Cn.slen rv)
     case atStart => exact ⟨0,M.body,Ab,cb,[],[],rfl,by omega,rfl,hbd,Hj (by rw [List.nil_append,List.drop_zero]),Nat.zero_le _,Hj (own_nil _ _ _ _),Hj ⟨rfl,fun i h => (by cases h)⟩,Hj (Below.refl _ _)⟩
     case round =>
      clear m3 m4 m5; obtain ⟨n,r,A,cp,P,vs,rfl,hnr,rfl,hRw,hPc,hPn,hO,hpv,hB⟩:=hrel
      have hBr:=Hj (hBw6.out.trans (hB.out.mono hBw6s)); have hKr:=Hj (hK6.out.below hB.out); have m5 : wr.cell? ⟨G,5,none⟩ = some (.slice As M.sz.length cs):=hKr.out.cell 5
      by_cases hr0 : r = []
      ·subst hr0
       have hlen0 : ¬ (0 : Int) < (([] : List UInt8).length : Int):=by decide
       have hPe : P = Cn.cuts M.body M.sz:=by have h:=hPc.out; rw [Cn.cuts_nil,List.append_nil] at h; exact h
       have hPf : P.flatten.length ≤ 300:=by rw [hPe,Cn.cuts_flat]; exact hbl
       have hE0 : encE P [] = 0:=by unfold encE; rw [if_neg (by omega),if_pos Cn.ok_nil]
       have hEB : encB P [] = Cn.mEnc M:=by unfold encB Cn.mEnc; rw [if_pos hE0,hch.out,if_pos rfl,hPe]
       have hps : ∀ p ∈ P,p.length ≤ 1000000:=fun p hp => by have:=Cn.mem_flat hp; omega
       have hEn:=encode_any P [] u10 (.slice none 0 0) wr (Cn.parts_of hO.out (hpv.out.below hBr.out)) (by omega) hps (Rd.nil wr 2) (fun p hp => (by cases hp)) (Nat.zero_le _) ((hBr.out.cell (p:=⟨5,15,none⟩) hT5).trans hT.out); have hEl : (Cn.mEnc M).length ≤ 100000:=by
        rw [← hEB]
        unfold encB
        rw [if_pos hE0]
        have h3:=Cn.chks_le P hPf; have h4 : (lastB []).length = 5:=rfl
        rw [List.length_append]; omega
       unfold EncR at hEn
       rw [hE0,hEB,errV_zero] at hEn
       have ho6r:=Hj (ho6.out.below hB.out); replace hEn:=Hj hEn; obtain ⟨Ap,cpp,rfl,-,-,-⟩:=id (Rd.own hO.out)
       clear hPe hPf hE0 hEB hps m5 hKr hPc hpv hO; generalize Cn.mEnc M = E at *; go_wp2_with fail
       refine hEn.out.mono ?_
       rintro e w7 ⟨o7,rfl,ho7,hb7⟩
       have hB7:=Hj (hBr.out.trans (hb7.mono hBr.out.size)); have ho7r:=Hj (ho6r.out.below hb7); have hRe:=Hj (Rd.own ho7); obtain ⟨A7,c7,rfl,-,-,-⟩:=id hRe.out; have hb7s:=hb7.size; have hBs7:=hB.out.size; clear ho7 hb7 hEn ho6r; go_wp2_with (at_builtin; refine step_pushM _ _ rfl rfl E ho7r.out rfl rfl rfl hRe.out (by have:=hwl.out; omega) (by omega) ?_; intro v8 w8 ho8 hb8; replace ho8:=Hj ho8; replace hb8:=Hj hb8)
       go_ret; exact ⟨_,rfl,by rw [hmO2.out]; exact ho8.out.base (by omega),hB7.out.trans (hb8.out.mono (by omega)),fun h => absurd hz.out h⟩
      ·have hrp:=List.length_pos_iff.2 hr0
       obtain ⟨A',cp',e',hcap,-,hrr⟩:=id hRw.out; cases e'; obtain ⟨b0,o0,rfl,-,-⟩:=hrr hrp
       clear hrr; have hNle:=Cn.cutN_le r M.sz n; have hNp:=Cn.cutN_pos (zs:=M.sz) (i:=n) hr0; have hfl2:=hPc; by_cases hi : n < M.sz.length
       ·obtain ⟨Az',cz',ez,-,-,hzr0⟩:=hsz.out.below hBr.out
        cases ez
        obtain ⟨bz,oz,rfl,-,hzx⟩:=hzr0 (by omega)
        have hzc : wr.cell? ⟨bz,oz + n,none⟩ = some (.int .u8 (M.sz[n].toNat : Int)):=hzx n _ (u8s_at hi)
        have hzb : M.sz[n].toNat < 256:=UInt8.toNat_lt _
        have hcn : Cn.cutN r M.sz n = min r.length (M.sz[n].toNat + 1):=dif_pos hi
        clear hzx hzr0; generalize M.sz[n].toNat = z at *; obtain ⟨N,hN⟩ : ∃ N,Cn.cutN r M.sz n = N:=⟨_,rfl⟩
        have hNe:=hN; rw [hN] at hNle hNp hcn
        have hlN : (r.take N).length = N:=by rw [List.length_take]; omega
        have hmin : min (r.length : Int) ((z : Int) + 1) = (N : Int):=by omega
        replace hcn:=Hj hcn; replace hN:=Hj hN; have g7 : (N : Int) ≤ (cp : Int):=by omega
        have g8 : N ≤ cp:=by omega
        have hfr:=Hj (Cn.rd_frontB hRw.out (show N ≤ r.length by omega)); have hpv2:=Hj (hpv.out.push (by rw [hlN]; exact hfr.out) hlN)
        have hdN:=Hj (show (r.drop N).length = r.length - N from List.length_drop); have hzw : w6.heap.size ≤ wr.heap.size:=hB.out.size
        replace hlN:=Hj hlN; replace hNe:=Hj hNe; by_cases hcp : N = cp
        ·have hcut : Hid (Cn.CutB (some ⟨b0,o0,none⟩) r.length cp N (.slice (some ⟨b0,o0,none⟩) 0 0)):=Hj ⟨b0,o0,rfl,by omega,by omega,.inr ⟨hcp,rfl⟩⟩
         have h0:=Hj (show (r.drop N).length = 0 by rw [hdN.out]; omega)
         subst hcp; go_wp2_with (at_builtin; refine push_bs _ _ rfl rfl rfl hO.out rfl rfl (by omega) hzw ?_; intro v7 w7 ho7 hb7; replace ho7:=Hj ho7; have hB7:=Hj (hB.out.trans hb7); clear hb7)
         go_roundw
         case rel =>
          obtain ⟨q1,-,-⟩:=hcut.out.rd hRw.out
          exact ⟨n + 1,r.drop N,some ⟨b0,o0,none⟩,0,P ++ [r.take N],vs ++ [.slice (some ⟨b0,o0,none⟩) N N],by go_num,by rw [hdN.out]; omega,by rw [h0.out],Hj (by rw [h0.out] at q1 ⊢; exact q1),Hj (by rw [List.append_assoc,← hfl2.out]; rw [Cn.cuts_at (i:=n) (zs:=M.sz) hr0,hNe.out]; rfl),by rw [List.length_append,List.length_singleton]; omega,Hj (by rw [List.length_append,List.length_singleton]; exact ho7.out),Hj (hpv2.out),hB7⟩
         case measure => simp [Cn.slen]; omega
        ·have hlt2 : N < cp:=by omega
         have hcut : Hid (Cn.CutB (some ⟨b0,o0,none⟩) r.length cp N (.slice (some ⟨b0,o0 + N,none⟩) (r.length - N) (cp - N))):=Hj ⟨b0,o0,rfl,by omega,by omega,.inl ⟨hlt2,rfl⟩⟩
         go_wp2_with (at_builtin; refine push_bs _ _ rfl rfl rfl hO.out rfl rfl (by omega) hzw ?_; intro v7 w7 ho7 hb7; replace ho7:=Hj ho7; have hB7:=Hj (hB.out.trans hb7); clear hb7)
         go_roundw
         case rel =>
          obtain ⟨q1,-,-⟩:=hcut.out.rd hRw.out
          exact ⟨n + 1,r.drop N,some ⟨b0,o0 + N,none⟩,cp - N,P ++ [r.take N],vs ++ [.slice (some ⟨b0,o0,none⟩) N cp],by go_num,by rw [hdN.out]; omega,by rw [hdN.out]; try go_num,Hj (by rw [hdN.out] at q1 ⊢; exact q1),Hj (by rw [List.append_assoc,← hfl2.out]; rw [Cn.cuts_at (i:=n) (zs:=M.sz) hr0,hNe.out]; rfl),by rw [List.length_append,List.length_singleton]; omega,Hj (by rw [List.length_append,List.length_singleton]; exact ho7.out),Hj (hpv2.out),hB7⟩
         case measure => simp [Cn.slen]; omega
       ·have hcn : Cn.cutN r M.sz n = r.length:=dif_neg hi
        obtain ⟨N,hN⟩ : ∃ N,Cn.cutN r M.sz n = N:=⟨_,rfl⟩
        have hNe:=hN; rw [hN] at hNle hNp hcn
        have hlN : (r.take N).length = N:=by rw [List.length_take]; omega
        have hNr : N = r.length:=hcn
        go_upto_region 27 with (fail)
        rw [show (r.length : Int) = (N : Int) by omega]
        replace hcn:=Hj hcn; replace hN:=Hj hN; replace hNr:=Hj hNr; have g7 : (N : Int) ≤ (cp : Int):=by omega
        have g8 : N ≤ cp:=by omega
        have hfr:=Hj (Cn.rd_frontB hRw.out (show N ≤ r.length by omega)); have hpv2:=Hj (hpv.out.push (by rw [hlN]; exact hfr.out) hlN)
        have hdN:=Hj (show (r.drop N).length = r.length - N from List.length_drop); have hzw : w6.heap.size ≤ wr.heap.size:=hB.out.size
        replace hlN:=Hj hlN; replace hNe:=Hj hNe; by_cases hcp : N = cp
        ·have hcut : Hid (Cn.CutB (some ⟨b0,o0,none⟩) r.length cp N (.slice (some ⟨b0,o0,none⟩) 0 0)):=Hj ⟨b0,o0,rfl,by omega,by omega,.inr ⟨hcp,rfl⟩⟩
         have h0:=Hj (show (r.drop N).length = 0 by rw [hdN.out]; omega)
         subst hcp; go_wp2_with (at_builtin; refine push_bs _ _ rfl rfl rfl hO.out rfl rfl (by omega) hzw ?_; intro v7 w7 ho7 hb7; replace ho7:=Hj ho7; have hB7:=Hj (hB.out.trans hb7); clear hb7)
         go_roundw
         case rel =>
          obtain ⟨q1,-,-⟩:=hcut.out.rd hRw.out
          exact ⟨n + 1,r.drop N,some ⟨b0,o0,none⟩,0,P ++ [r.take N],vs ++ [.slice (some ⟨b0,o0,none⟩) N N],by go_num,by rw [hdN.out]; omega,by rw [h0.out],Hj (by rw [h0.out] at q1 ⊢; exact q1),Hj (by rw [List.append_assoc,← hfl2.out]; rw [Cn.cuts_at (i:=n) (zs:=M.sz) hr0,hNe.out]; rfl),by rw [List.length_append,List.length_singleton]; omega,Hj (by rw [List.length_append,List.length_singleton]; exact ho7.out),Hj (hpv2.out),hB7⟩
         case measure => simp [Cn.slen]; omega
        ·have hlt2 : N < cp:=by omega
         have hcut : Hid (Cn.CutB (some ⟨b0,o0,none⟩) r.length cp N (.slice (some ⟨b0,o0 + N,none⟩) (r.length - N) (cp - N))):=Hj ⟨b0,o0,rfl,by omega,by omega,.inl ⟨hlt2,rfl⟩⟩
         go_wp2_with (at_builtin; refine push_bs _ _ rfl rfl rfl hO.out rfl rfl (by omega) hzw ?_; intro v7 w7 ho7 hb7; replace ho7:=Hj ho7; have hB7:=Hj (hB.out.trans hb7); clear hb7)
         go_roundw
         case rel =>
          obtain ⟨q1,-,-⟩:=hcut.out.rd hRw.out
          exact ⟨n + 1,r.drop N,some ⟨b0,o0 + N,none⟩,cp - N,P ++ [r.take N],vs ++ [.slice (some ⟨b0,o0,none⟩) N cp],by go_num,by rw [hdN.out]; omega,by rw [hdN.out]; try go_num,Hj (by rw [hdN.out] at q1 ⊢; exact q1),Hj (by rw [List.append_assoc,← hfl2.out]; rw [Cn.cuts_at (i:=n) (zs:=M.sz) hr0,hNe.out]; rfl),by rw [List.length_append,List.length_singleton]; omega,Hj (by rw [List.length_append,List.length_singleton]; exact ho7.out),Hj (hpv2.out),hB7⟩
         case measure => simp [Cn.slen]; omega
    ·rw [herr_ne hz]
     have hmE2:=Hj (hmE.out hz); clear hmO hmE; replace hz:=Hj hz; go_wp2; go_ret; exact ⟨_,rfl,by rw [hmE2.out]; exact .inl ⟨rfl,rfl⟩,hBw0.out.trans (hB6.out.mono hBw0.out.size),fun _ => rfl⟩
end Go.Proofs.YtjffffpfejmoiaaGreatDoor
