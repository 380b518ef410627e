import Derived.Test.YtjffffpfejmoiaaGreatDoorGXd
import Derived.Test.YtjffffpfejmoiaaGreatDoorNMsgW
import Derived.Test.YtjffffpfejmoiaaGreatDoorNCutW
import Derived.Test.YtjffffpfejmoiaaGreatDoorNFmtW
import Derived.Test.YtjffffpfejmoiaaGreatDoorGXe
import Derived.Test.YtjffffpfejmoiaaGreatDoorGXc
import Derived.Test.YtjffffpfejmoiaaGreatDoorGXg
namespace Go.Proofs.YtjffffpfejmoiaaGreatDoor
open Go.RowKit Syn Hd Fr Ck
namespace Cn
inductive MsR (w : World) : List Msg → List Value → Prop
 | nil : MsR w [] []
 | snoc {l : List Msg} {xs : List Value} {M : Msg} {vf vb vs : Value} : MsR w l xs → Rd w 2 vf M.fl.length (prs M.fl) → Rd w 1 vb M.body.length (u8s M.body) → Rd w 1 vs M.sz.length (u8s M.sz) → MsR w (l ++ [M]) (xs ++ [.string (str M.m),.string (str M.t),vf,vb,.bool M.ch,vs])
theorem MsR.len {w : World} {l : List Msg} {xs : List Value} (h : MsR w l xs) : xs.length = l.length * 6:=by
 induction h with
 | nil => rfl
 | snoc _ _ _ _ ih => rw [List.length_append,List.length_append,ih,List.length_singleton]; simp only [List.length_cons,List.length_nil]; omega
theorem MsR.at_ {w : World} {l : List Msg} {xs : List Value} (h : MsR w l xs) : ∀ {i : Nat} (hi : i < l.length),∃ Af nf cf Ab cb As ns cs,Rd w 1 (.slice Ab l[i].body.length cb) l[i].body.length (u8s l[i].body) ∧ ∀ j,j < 6 → xs[i * 6 + j]? = [Value.string (str l[i].m),.string (str l[i].t),.slice Af nf cf,.slice Ab l[i].body.length cb,.bool l[i].ch,.slice As ns cs][j]?:=by
 induction h with
 | nil => intro i hi; cases hi
 | @snoc l xs M vf vb vs h r1 r2 r3 ih =>
  intro i hi; have hn:=h.len; rw [List.length_append,List.length_singleton] at hi
  by_cases hlt : i < l.length
  ·obtain ⟨a1,a2,a3,b1,b2,c1,c2,c3,h1,h2⟩:=ih hlt
   rw [List.getElem_append_left hlt]
   exact ⟨a1,a2,a3,b1,b2,c1,c2,c3,h1,fun j hj => by rw [List.getElem?_append_left (by rw [hn]; omega)]; exact h2 j hj⟩
  ·have e : i = l.length:=by omega
   subst e; rw [List.getElem_append_right (Nat.le_refl _)]
   simp only [Nat.sub_self,List.getElem_cons_zero]
   obtain ⟨Af,cf,rfl,-⟩:=r1
   obtain ⟨Ab,cb,rfl,-⟩:=id r2; obtain ⟨As,cs,rfl,-⟩:=r3
   exact ⟨Af,_,cf,Ab,cb,As,_,cs,r2,fun j hj => by rw [List.getElem?_append_right (by rw [hn]; omega),hn,show l.length * 6 + j - l.length * 6 = j by omega]⟩
theorem allB_take {l : List Msg} {k : Nat} (h : k < l.length) : allB (l.take (k + 1)) = allB (l.take k) ++ (if wqE l[k].m l[k].t (mf l[k]) = 0 then mB l[k] else []) ∧ wants (l.take (k + 1)) = wants (l.take k) ++ (if wqE l[k].m l[k].t (mf l[k]) = 0 then [l[k]] else []):=by
 have e : wants (l.take (k + 1)) = wants (l.take k) ++ (if wqE l[k].m l[k].t (mf l[k]) = 0 then [l[k]] else []):=by
  unfold wants
  rw [List.take_succ_eq_append_getElem h,List.filter_append]
  by_cases hk : wqE l[k].m l[k].t (mf l[k]) = 0
  ·simp [hk]
  ·simp [hk]
 refine ⟨?_,e⟩
 unfold allB
 rw [e,List.flatMap_append]
 split <;> simp
theorem mB_ne {M : Msg} (h : wqE M.m M.t (mf M) = 0) : mB M ≠ []:=by
 unfold mB
 rw [if_pos h]
 have h1 : wqB M.m M.t (mf M) ≠ []:=by
  unfold wqB
  rw [if_pos h]
  unfold headB
  simp
 intro e; exact h1 (List.append_eq_nil_iff.1 e).1
theorem wants_len (l : List Msg) (k : Nat) : (wants (l.take k)).length ≤ k:=by
 have h1:=List.length_filter_le (fun M => decide (wqE M.m M.t (mf M) = 0)) (l.take k); rw [List.length_take] at h1
 show (List.filter _ _).length ≤ k
 omega
end Cn
theorem infoMs : (Tryz.prog.info? 46).map (fun i => (i.zero,i.size,i.bytes)) = some (some (.agg #[.string ⟨#[]⟩,.string ⟨#[]⟩,.slice none 0 0,.slice none 0 0,.bool false,.slice none 0 0]),6,112):=by kernel_rfl
theorem stepD_msg {ops : Array Oper} {o : Oper} {a : Act} {K : Act → World → Prop} {Q : Exit → Act → World → Prop} {E : Prop} {w : World} (s x : Operand)
  (hgd : o.guard = none) (ho : o.op = .call { callee:=.builtin .append,args:=#[s,x],argTypes:=#[44,44] })
  {B n g : Nat} {v u0 u1 u2 u3 u4 u5 : Value} {xs : List Value} (hs : a.eval s = v) (hown : Own w B 46 6 v n xs) (hx : a.eval x = .slice (some ⟨g,0,none⟩) 1 1)
  (hb : Blk w g 46 #[u0,u1,u2,u3,u4,u5])
  (h1 : ∀ u ∈ [u0,u1,u2,u3,u4,u5],u.oneCell' = true) (hn : n ≤ 10000000) (hB : B ≤ w.heap.size)
  (h : ∀ v' w',Own w' B 46 6 v' (n + 1) (xs ++ [u0,u1,u2,u3,u4,u5]) → w.grownBy w' v.ownBlock → (v'.ownBlock = v.ownBlock ∨ v'.ownBlock = some w.heap.size) → K (a.put o.dst v') w') :
  if Region.wanted o (yielded ops a.tmps) = true then Oper.wp Tryz.prog o a w K Q else E:=by
 obtain ⟨i0,hi0,hz0,hz1,hz2⟩:=info_parts infoMs
 refine step_append_lies w hgd s x _ ho B _ i0 _ 6 112 Tryz.underlying44 hi0 hz0 hz1 hz2 rfl (by omega) v n xs hs hown ⟨g,0,none⟩ 1 1 [u0,u1,u2,u3,u4,u5] hx rfl (World.news_of_block (cs:=#[u0,u1,u2,u3,u4,u5]) (t:=46) (fr:=(0,0)) hb) h1 (by omega) (by have : maxLen = 9223372036854775807:=rfl; omega) (by omega) hB w.heap.size rfl ?_
 intro gg cap w' ho' hg hat _; exact h _ w' ho' hg (hat.elim (fun e => .inl (by rw [e]; rfl)) (fun e => .inr (by rw [e]; rfl)))
set_option maxRecDepth 100000 in
set_option maxHeartbeats 16000000 in
theorem wire_walk (l : List Cn.Msg) (v : Value) (zs ys : List UInt8) (Az Ay : Option Addr) (cz cy : Nat) (w : World) (hL : Cn.MsC w v l) (hLB : ∀ M ∈ l,Cn.MB M) (hz : Rd w 1 (.slice Az zs.length cz) zs.length (u8s zs)) (hy : Rd w 1 (.slice Ay ys.length cy) ys.length (u8s ys))
  (hM : MaxL w) (hT : w.cell? ⟨5,15,none⟩ = some (.int .u8 4)) :
  Calls Tryz.prog 4 #[v,.slice Az zs.length cz,.slice Ay ys.length cy] w fun e w' => e = .returned (.bool true) ∧ Below w.heap.size w w':=by
 obtain ⟨A,cap,rfl,hcap,hLr⟩:=hL
 have hAw:=Hj (fun w' (hb : Below w.heap.size w w') => wire_any w' (hM.below hb)); have hT5 : 5 < w.heap.size:=cell_lt hT
 replace hz:=Hj hz; replace hy:=Hj hy; replace hM:=Hj hM; replace hT:=Hj hT; replace hLr:=Hj hLr; replace hLB:=Hj hLB; by_cases n1 : 8 < l.length
 ·go_enter Tryz.func4,Tryz.ntmps4
  go_wp2_with fail
  refine (hAw.out _ (Below.refl _ _)).mono ?_
  rintro e w1 ⟨rfl,hb1⟩
  replace hb1:=Hj hb1; go_wp2; go_ret; exact ⟨rfl,hb1.out⟩
 by_cases n2 : 200 < zs.length
 ·go_enter Tryz.func4,Tryz.ntmps4
  go_wp2_with fail
  refine (hAw.out _ (Below.refl _ _)).mono ?_
  rintro e w1 ⟨rfl,hb1⟩
  replace hb1:=Hj hb1; go_wp2; go_ret; exact ⟨rfl,hb1.out⟩
 by_cases n3 : 200 < ys.length
 ·go_enter Tryz.func4,Tryz.ntmps4
  go_wp2_with fail
  refine (hAw.out _ (Below.refl _ _)).mono ?_
  rintro e w1 ⟨rfl,hb1⟩
  replace hb1:=Hj hb1; go_wp2; go_ret; exact ⟨rfl,hb1.out⟩
 go_enter Tryz.func4,Tryz.ntmps4
 go_wp2_with fail
 refine (hAw.out _ (Below.refl _ _)).mono ?_
 rintro e w1 ⟨rfl,hb1⟩
 replace hb1:=Hj hb1; go_wp2; go_loopw [7,8,42] (fun al wv i wr => ∃ (k : Nat) (xs : List Value),i = .int .i64 (k : Int) ∧ k ≤ l.length ∧ Hid (Own wr w.heap.size 5 1 al (Cn.allB (l.take k)).length (u8s (Cn.allB (l.take k)))) ∧ Hid (Own wr w.heap.size 46 6 wv (Cn.wants (l.take k)).length xs) ∧ Hid (Cn.MsR w (Cn.wants (l.take k)) xs) ∧ Hid (∀ M ∈ l.take k,M.body.length ≤ 300) ∧ Hid (Below w.heap.size w wr)) (fun _ _ i _ => l.length - (intOf i).toNat)
 case atStart => exact ⟨0,[],rfl,Nat.zero_le _,Hj (own_nil _ _ _ _),Hj (own_nil _ _ _ _),Hj .nil,Hj (fun M hM => by cases hM),hb1⟩
 case round =>
  clear hb1; obtain ⟨k,xs,rfl,hk,hOA,hOW,hMR,hbd,hB⟩:=hrel
  have hBw:=hB.out.size; by_cases hlt : k < l.length
  ·obtain ⟨b0,o0,rfl,hb0,hcs⟩:=hLr.out (by omega)
   obtain ⟨Af,cf,Ab,cb,As,cs,e0,e1,e2,e3,e4,e5,rF,rB,rS⟩:=hcs k hlt
   have c0:=(hB.out.cell (p:=⟨b0,o0 + k * 6,none⟩) hb0).trans e0; have c1:=(hB.out.cell (p:=⟨b0,o0 + k * 6 + 1,none⟩) hb0).trans e1; have c2:=(hB.out.cell (p:=⟨b0,o0 + k * 6 + 2,none⟩) hb0).trans e2; have c3:=(hB.out.cell (p:=⟨b0,o0 + k * 6 + 3,none⟩) hb0).trans e3; have c4:=(hB.out.cell (p:=⟨b0,o0 + k * 6 + 4,none⟩) hb0).trans e4; have c5:=(hB.out.cell (p:=⟨b0,o0 + k * 6 + 5,none⟩) hb0).trans e5; obtain ⟨B1,B2,B3,B4,B5,B6⟩:=hLB.out l[k] (List.getElem_mem hlt)
   obtain ⟨hA1,hW1⟩:=Cn.allB_take hlt
   have htk:=List.take_succ_eq_append_getElem hlt; have hwn:=Cn.wants_len l k; have hal:=Cn.flat_len (Cn.wants (l.take k)) (fun M hM => hbd.out M (List.mem_filter.1 hM).1); rw [show (Cn.wants (l.take k)).flatMap Cn.mB = Cn.allB (l.take k) from rfl] at hal
   clear e0 e1 e2 e3 e4 e5 hcs; generalize l[k] = M at *; generalize Cn.allB (l.take k) = L0 at *; generalize Cn.wants (l.take k) = W0 at *; replace rF:=Hj rF; replace rB:=Hj rB; replace rS:=Hj rS; replace B3:=Hj B3; replace hA1:=Hj hA1; replace hW1:=Hj hW1; replace htk:=Hj htk; go_upto_region 8 with (fail)
   have hX:=Blk.new wr 46 #[.string (str M.m),.string (str M.t),.slice Af M.fl.length cf,.slice Ab M.body.length cb,.bool M.ch,.slice As M.sz.length cs]; have hbx:=(Below.refl wr.heap.size wr).alloc (Nat.le_refl _) (.cells #[.string (str M.m),.string (str M.t),.slice Af M.fl.length cf,.slice Ab M.body.length cb,.bool M.ch,.slice As M.sz.length cs] 46); obtain ⟨G,hGz⟩ : ∃ G,wr.heap.size = G:=⟨_,rfl⟩
   rw [hGz] at hX ⊢
   generalize wr.alloc (.cells #[.string (str M.m),.string (str M.t),.slice Af M.fl.length cf,.slice Ab M.body.length cb,.bool M.ch,.slice As M.sz.length cs] 46) = w2 at *; clear c0 c1 c2 c3 c4 c5; have hB2:=Hj (hB.out.trans (hbx.mono hBw)); have hOA2:=Hj (own_below hOA.out hbx); have hOW2:=Hj (own_below hOW.out hbx); have m0 : w2.cell? ⟨G,0,none⟩ = some (.string (str M.m)):=hX.cell 0
   have m1 : w2.cell? ⟨G,1,none⟩ = some (.string (str M.t)):=hX.cell 1
   have m2 : w2.cell? ⟨G,2,none⟩ = some (.slice Af M.fl.length cf):=hX.cell 2
   have m3 : w2.cell? ⟨G,3,none⟩ = some (.slice Ab M.body.length cb):=hX.cell 3
   have hGo : ∀ b,u7.ownBlock = some b ∨ u8.ownBlock = some b → w.heap.size ≤ b ∧ b < G:=fun b e => by
    rcases e with e | e
    ·have:=World.ownsRow.lt hOA.out b e; omega
    ·have:=World.ownsRow.lt hOW.out b e; omega
   have hB2s:=hB2.out.size; replace hX:=Hj hX; replace hbx:=Hj hbx; replace hGo:=Hj hGo; replace hGz:=Hj hGz; clear hOA hOW; by_cases nb : 300 < M.body.length
   ·go_wp2
    go_ret; exact ⟨rfl,hB2.out⟩
   have hS:=Hj (size_some M.fl _ w2 (rF.out.below hB2.out) (by omega)); go_wp2_with fail
   refine hS.out.mono ?_
   rintro e w3 ⟨z,rfl,hb3⟩
   have hB3:=Hj (hB2.out.trans (hb3.mono hB2s)); have hX3:=Hj (hX.out.below hb3); have hOA3:=Hj (own_below hOA2.out hb3); have hOW3:=Hj (own_below hOW2.out hb3); have hs3:=hb3.size; clear m0 m1 m2 m3 hX hOA2 hOW2 hS hb3; have m0 : w3.cell? ⟨G,0,none⟩ = some (.string (str M.m)):=hX3.out.cell 0
   have m1 : w3.cell? ⟨G,1,none⟩ = some (.string (str M.t)):=hX3.out.cell 1
   have m2 : w3.cell? ⟨G,2,none⟩ = some (.slice Af M.fl.length cf):=hX3.out.cell 2
   have m3 : w3.cell? ⟨G,3,none⟩ = some (.slice Ab M.body.length cb):=hX3.out.cell 3
   have m4 : w3.cell? ⟨G,4,none⟩ = some (.bool M.ch):=hX3.out.cell 4
   have m5 : w3.cell? ⟨G,5,none⟩ = some (.slice As M.sz.length cs):=hX3.out.cell 5
   by_cases nz : (2000 : Int) < z
   ·go_wp2
    go_ret; exact ⟨rfl,hB3.out⟩
   have hss:=str_size M.t; by_cases nt : 500 < M.t.length
   ·have nt' : (500 : Int) < ((str M.t).size : Int):=by omega
    go_wp2; go_ret; exact ⟨rfl,hB3.out⟩
   have nt' : ¬ (500 : Int) < ((str M.t).size : Int):=by omega
   have hMs:=Hj (msg_any M Af Ab As cf cb cs w3 (rF.out.below hB3.out) (rB.out.below hB3.out) (rS.out.below hB3.out) B1 B2 B3.out B4 (by omega) B6 ((hB3.out.cell (p:=⟨5,15,none⟩) hT5).trans hT.out)); have hmx:=Cn.mB_len (M:=M) (by omega); go_wp2_with fail
   refine hMs.out.mono ?_
   rintro e w4 ⟨o,rfl,hoM,hb4,hon⟩
   have hB4:=Hj (hB3.out.trans (hb4.mono hB3.out.size)); have hX4:=Hj (hX3.out.below hb4); have hOA4:=Hj (own_below hOA3.out hb4); have hOW4:=Hj (own_below hOW3.out hb4); have hs4:=hb4.size; clear m0 m1 m2 m3 m4 m5 hX3 hOA3 hOW3 hMs; by_cases hw : wqE M.m M.t (Cn.mf M) = 0
   ·obtain ⟨-,h0⟩ | ⟨g,cp,rfl,hg1,hg2,-,-,-⟩:=id hoM
    ·exact absurd h0 (Cn.mB_ne hw)
    have hRB:=Hj hoM.rd; have hmp:=List.length_pos_iff.2 (Cn.mB_ne hw); rw [if_pos hw] at hA1 hW1
    generalize Cn.mB M = B0 at *; replace hoM:=Hj hoM; replace hon:=Hj hon; replace hw:=Hj hw; have m0 : w4.cell? ⟨G,0,none⟩ = some (.string (str M.m)):=hX4.out.cell 0
    have m1 : w4.cell? ⟨G,1,none⟩ = some (.string (str M.t)):=hX4.out.cell 1
    have m2 : w4.cell? ⟨G,2,none⟩ = some (.slice Af M.fl.length cf):=hX4.out.cell 2
    have m3 : w4.cell? ⟨G,3,none⟩ = some (.slice Ab M.body.length cb):=hX4.out.cell 3
    have m4 : w4.cell? ⟨G,4,none⟩ = some (.bool M.ch):=hX4.out.cell 4
    have m5 : w4.cell? ⟨G,5,none⟩ = some (.slice As M.sz.length cs):=hX4.out.cell 5
    have hap:=Hj (show ∀ b,u7.ownBlock = some b → u8.ownBlock ≠ some b from fun b e => Own.apart hOA4.out hOW4.out (by decide) e); have hR4:=Hj (Below.refl w4.heap.size w4); have hz4 : wr.heap.size ≤ w4.heap.size:=by have h1:=hbx.out.size; omega
    have hGw : G ≤ w4.heap.size:=by have:=hGz.out; omega
    have hS : ∀ w',Blk w' G 46 #[.string (str M.m),.string (str M.t),.slice Af M.fl.length cf,.slice Ab M.body.length cb,.bool M.ch,.slice As M.sz.length cs] → w'.cell? ⟨G,0,none⟩ = some (.string (str M.m)) ∧ w'.cell? ⟨G,1,none⟩ = some (.string (str M.t)) ∧ w'.cell? ⟨G,2,none⟩ = some (.slice Af M.fl.length cf) ∧ w'.cell? ⟨G,3,none⟩ = some (.slice Ab M.body.length cb) ∧ w'.cell? ⟨G,4,none⟩ = some (.bool M.ch) ∧ w'.cell? ⟨G,5,none⟩ = some (.slice As M.sz.length cs):=fun w' h => ⟨h.cell 0,h.cell 1,h.cell 2,h.cell 3,h.cell 4,h.cell 5⟩
    replace hS:=Hj hS; replace hb4:=Hj hb4; go_wp2_with fail
    go_region_held3 (fun w' => w'.cell? ⟨G,0,none⟩ = some (.string (str M.m)) ∧ w'.cell? ⟨G,1,none⟩ = some (.string (str M.t)) ∧ w'.cell? ⟨G,2,none⟩ = some (.slice Af M.fl.length cf) ∧ w'.cell? ⟨G,3,none⟩ = some (.slice Ab M.body.length cb) ∧ w'.cell? ⟨G,4,none⟩ = some (.bool M.ch) ∧ w'.cell? ⟨G,5,none⟩ = some (.slice As M.sz.length cs))
     (first | exact ⟨m0,m1,m2,m3,m4,m5⟩ | exact hS.out _ (hX4.out.below (by first | with_reducible exact hR4.out | with_reducible exact hR4.out.drew | with_reducible exact hR4.out.alloc hR4.out.size _ | with_reducible exact (hR4.out.alloc hR4.out.size _).drew | with_reducible exact hR4.out.drew.alloc hR4.out.drew.size _ | with_reducible exact (hR4.out.drew.alloc hR4.out.drew.size _).drew)) | exact hS.out _ (hX9.out.below (by first | with_reducible exact hR9.out | with_reducible exact hR9.out.drew | with_reducible exact hR9.out.alloc hR9.out.size _ | with_reducible exact (hR9.out.alloc hR9.out.size _).drew | with_reducible exact hR9.out.drew.alloc hR9.out.drew.size _ | with_reducible exact (hR9.out.drew.alloc hR9.out.drew.size _).drew)) | exact hS.out _ hX10.out | exact hS.out _ hX10.out.drew)
     (first | (refine stepD_bytes (B:=w.heap.size) (n:=L0.length) (m:=B0.length) (l:=B0) (xs:=u8s L0) (ad:=⟨g,0,none⟩) _ _ (by rfl) (by rfl) (by rfl) (own_below hOA4.out (by first | with_reducible exact hR4.out | with_reducible exact hR4.out.drew | with_reducible exact hR4.out.alloc hR4.out.size _ | with_reducible exact (hR4.out.alloc hR4.out.size _).drew | with_reducible exact hR4.out.drew.alloc hR4.out.drew.size _ | with_reducible exact (hR4.out.drew.alloc hR4.out.drew.size _).drew)) (by rfl) rfl (hRB.out.below (by first | with_reducible exact hR4.out | with_reducible exact hR4.out.drew | with_reducible exact hR4.out.alloc hR4.out.size _ | with_reducible exact (hR4.out.alloc hR4.out.size _).drew | with_reducible exact hR4.out.drew.alloc hR4.out.drew.size _ | with_reducible exact (hR4.out.drew.alloc hR4.out.drew.size _).drew)) hmp (by omega) (by have h9 : w.heap.size ≤ w4.heap.size:=hB4.out.size; first | exact h9 | (simp; omega)) ?_; intro v9 w9 ho9 hg9 hat9; have hOW9:=Hj (own_kpg (own_below hOW4.out (by first | with_reducible exact hR4.out | with_reducible exact hR4.out.drew | with_reducible exact hR4.out.alloc hR4.out.size _ | with_reducible exact (hR4.out.alloc hR4.out.size _).drew | with_reducible exact hR4.out.drew.alloc hR4.out.drew.size _ | with_reducible exact (hR4.out.drew.alloc hR4.out.drew.size _).drew)) hg9 (fun b e e2 => hap.out b e2 e)); have hX9:=Hj (Blk.grown8 (hX4.out.below (by first | with_reducible exact hR4.out | with_reducible exact hR4.out.drew | with_reducible exact hR4.out.alloc hR4.out.size _ | with_reducible exact (hR4.out.alloc hR4.out.size _).drew | with_reducible exact hR4.out.drew.alloc hR4.out.drew.size _ | with_reducible exact (hR4.out.drew.alloc hR4.out.drew.size _).drew)) hg9 (fun e => by have:=(hGo.out G (.inl e)).2; omega)); have hB9:=Hj (Below.trans (by first | with_reducible exact hB4.out | with_reducible exact hB4.out.drew | with_reducible exact hB4.out.alloc hB4.out.size _ | with_reducible exact (hB4.out.alloc hB4.out.size _).drew | with_reducible exact hB4.out.drew.alloc hB4.out.drew.size _ | with_reducible exact (hB4.out.drew.alloc hB4.out.drew.size _).drew) (below_grown (own_below hOA4.out (by first | with_reducible exact hR4.out | with_reducible exact hR4.out.drew | with_reducible exact hR4.out.alloc hR4.out.size _ | with_reducible exact (hR4.out.alloc hR4.out.size _).drew | with_reducible exact hR4.out.drew.alloc hR4.out.drew.size _ | with_reducible exact (hR4.out.drew.alloc hR4.out.drew.size _).drew)) hg9 (by have h9 : w.heap.size ≤ w4.heap.size:=hB4.out.size; first | exact h9 | (simp; omega)))); have hR9:=Hj (Below.refl w9.heap.size w9); (first | have hN9:=Hj (Blk.grown8 (g:=w4.heap.size) (by first | exact Blk.new w4 _ _ | exact (Blk.new w4 _ _).drew) hg9 (fun e => by have:=(hGo.out _ (.inl e)).2; omega)) | skip); have hap9:=Hj (show ∀ b,u8.ownBlock = some b → v9.ownBlock ≠ some b from fun b e e2 => by first | (rcases hat9 with h | h; (exact hap.out b (h.symm.trans e2) e); (have h1:=(hGo.out b (.inr e)).2; have h2:=Option.some.inj (e2.symm.trans h); simp at h2; omega))); replace ho9:=Hj ho9; obtain ⟨A9,c9,rfl,-,-,-⟩:=id (Rd.own ho9.out); clear hg9 hat9) | (refine stepD_msg (B:=w.heap.size) (n:=W0.length) (xs:=xs) (v:=u8) _ _ (by rfl) (by rfl) (by rfl) (own_below hOW9.out (by first | with_reducible exact hR9.out | with_reducible exact hR9.out.drew | with_reducible exact hR9.out.alloc hR9.out.size _ | with_reducible exact (hR9.out.alloc hR9.out.size _).drew | with_reducible exact hR9.out.drew.alloc hR9.out.drew.size _ | with_reducible exact (hR9.out.drew.alloc hR9.out.drew.size _).drew)) (by rfl) (by first | exact Blk.new w9 _ _ | exact (Blk.new w9 _ _).drew | exact hN9.out | exact hN9.out.drew) (by intro u hu; simp only [List.mem_cons,List.mem_nil_iff,or_false] at hu; rcases hu with rfl | rfl | rfl | rfl | rfl | rfl <;> rfl) (by omega) (by have h9 : w.heap.size ≤ w9.heap.size:=hB9.out.size; first | exact h9 | (simp; omega)) ?_; intro v10 w10 ho10 hg10 hat10; have hO10:=Hj (own_kpg (own_below ho9.out (by first | with_reducible exact hR9.out | with_reducible exact hR9.out.drew | with_reducible exact hR9.out.alloc hR9.out.size _ | with_reducible exact (hR9.out.alloc hR9.out.size _).drew | with_reducible exact hR9.out.drew.alloc hR9.out.drew.size _ | with_reducible exact (hR9.out.drew.alloc hR9.out.drew.size _).drew)) hg10 (fun b e e2 => hap9.out b e2 e)); have hB10:=Hj (Below.trans (by first | with_reducible exact hB9.out | with_reducible exact hB9.out.drew | with_reducible exact hB9.out.alloc hB9.out.size _ | with_reducible exact (hB9.out.alloc hB9.out.size _).drew | with_reducible exact hB9.out.drew.alloc hB9.out.drew.size _ | with_reducible exact (hB9.out.drew.alloc hB9.out.drew.size _).drew) (below_grown (own_below hOW9.out (by first | with_reducible exact hR9.out | with_reducible exact hR9.out.drew | with_reducible exact hR9.out.alloc hR9.out.size _ | with_reducible exact (hR9.out.alloc hR9.out.size _).drew | with_reducible exact hR9.out.drew.alloc hR9.out.drew.size _ | with_reducible exact (hR9.out.drew.alloc hR9.out.drew.size _).drew)) hg10 (by have h9 : w.heap.size ≤ w9.heap.size:=hB9.out.size; first | exact h9 | (simp; omega)))); have hX10:=Hj (Blk.grown8 (hX9.out.below (by first | with_reducible exact hR9.out | with_reducible exact hR9.out.drew | with_reducible exact hR9.out.alloc hR9.out.size _ | with_reducible exact (hR9.out.alloc hR9.out.size _).drew | with_reducible exact hR9.out.drew.alloc hR9.out.drew.size _ | with_reducible exact (hR9.out.drew.alloc hR9.out.drew.size _).drew)) hg10 (fun e => by have:=(hGo.out G (.inr e)).2; omega)); replace ho10:=Hj ho10; clear hg10 hat10))
    all_goals
     have hup : u8s (L0 ++ B0) = u8s L0 ++ u8s B0:=by unfold u8s; rw [List.map_append]
     have hO11 : Hid (Own w10 w.heap.size 5 1 (.slice A9 (L0.length + B0.length) c9) (Cn.allB (l.take (k + 1))).length (u8s (Cn.allB (l.take (k + 1))))):=Hj (by rw [hA1.out,List.length_append,hup]; exact hO10.out)
     have hW11 : Hid (Own w10 w.heap.size 46 6 v10 (Cn.wants (l.take (k + 1))).length (xs ++ [.string (str M.m),.string (str M.t),.slice Af M.fl.length cf,.slice Ab M.body.length cb,.bool M.ch,.slice As M.sz.length cs])):=Hj (by rw [hW1.out,List.length_append,List.length_singleton]; exact ho10.out)
     have hR11 : Hid (Cn.MsR w (Cn.wants (l.take (k + 1))) (xs ++ [.string (str M.m),.string (str M.t),.slice Af M.fl.length cf,.slice Ab M.body.length cb,.bool M.ch,.slice As M.sz.length cs])):=Hj (by rw [hW1.out]; exact hMR.out.snoc rF.out rB.out rS.out)
     clear hup m0 m1 m2 m3 m4 m5; go_wp2; go_roundw
     case rel => exact ⟨k + 1,_,by go_num,by omega,by first | exact hO11 | exact Hj hO11.out.drew,by first | exact hW11 | exact Hj hW11.out.drew,hR11,Hj (by
      intro N hN; rw [htk.out] at hN
      rcases List.mem_append.1 hN with hN | hN
      ·exact hbd.out N hN
      ·obtain rfl:=List.mem_singleton.1 hN; omega),by first | exact hB10 | exact Hj hB10.out.drew⟩
     case measure => simp [intOf]; omega
   ·obtain rfl:=hon hw
    rw [if_neg hw,List.append_nil] at hA1 hW1
    go_wp2; go_roundw
    case rel => exact ⟨k + 1,xs,by go_num,by omega,Hj (by rw [hA1.out]; exact hOA4.out),Hj (by rw [hW1.out]; exact hOW4.out),Hj (by rw [hW1.out]; exact hMR.out),Hj (by
     intro N hN; rw [htk.out] at hN
     rcases List.mem_append.1 hN with hN | hN
     ·exact hbd.out N hN
     ·obtain rfl:=List.mem_singleton.1 hN; omega),hB4⟩
    case measure => simp [intOf]; omega
  ·obtain rfl : k = l.length:=by omega
   rw [List.take_length] at hOA hOW hMR hbd
   have hWL:=Cn.wire_all l (by omega) hbd.out zs ys (by omega) (by omega); have hal0:=hWL.al; have hwn : (Cn.wants l).length ≤ 8:=by have:=Cn.wants_len l l.length; rw [List.take_length] at this; omega
   have hwb : ∀ M ∈ Cn.wants l,M.body.length ≤ 300:=fun M hM => hbd.out M (List.mem_filter.1 hM).1
   have hRl : ∀ {x : List UInt8} {A : Option Addr} {c : Nat} (W : World),Rd W 1 (.slice A x.length c) x.length (u8s x) → 0 < x.length → ∀ k,(Value.slice A x.length c).ownBlock = some k → k < W.heap.size:=fun W h h0 k e => by
    obtain ⟨A',c',e',-,-,h⟩:=h
    cases e'; obtain ⟨b,o,rfl,h2,-⟩:=h h0
    cases e; exact h2
   have hzl:=hRl w hz.out; have hyl:=hRl w hy.out; obtain ⟨Aa,ca,rfl,-,-,-⟩:=id (Rd.own hOA.out)
   have hal : ∀ b,(Value.slice Aa (Cn.allB l).length ca).ownBlock = some b → w.heap.size ≤ b ∧ b < wr.heap.size:=fun b e => World.ownsRow.lt hOA.out b e
   have hwl : ∀ b,u8.ownBlock = some b → w.heap.size ≤ b ∧ b < wr.heap.size:=fun b e => World.ownsRow.lt hOW.out b e
   have hRa:=Hj (Rd.own hOA.out); generalize Cn.allB l = T0 at *; replace hWL:=Hj hWL; replace hzl:=Hj hzl; replace hyl:=Hj hyl; replace hal:=Hj hal; replace hwl:=Hj hwl; replace hwb:=Hj hwb; clear hRl hOA hbd hLB hLr; go_wp2_with fail
   refine (newreq_any wr).mono ?_
   rintro e w2 ⟨rfl,hw2⟩
   have hA2 : Cn.At w2 wr.heap.size (· = wr.heap.size) (Cn.new false []):=by rw [hw2]; exact newreq_at wr
   have hb2 : Below wr.heap.size wr w2:=by rw [hw2]; exact (Below.refl _ _).alloc (Nat.le_refl _) _
   clear hw2; have hB2:=hB.out.trans (hb2.mono hBw); have hC:=wcut_any hA2 T0 zs Aa Az ca cz (hRa.out.below hb2) (hz.out.below hB2) (fun b e e2 => by have:=(hal.out b e).2; have e3 : b = wr.heap.size:=e2; omega) (fun h0 b e e2 => by have:=hzl.out h0 b e; have e3 : b = wr.heap.size:=e2; omega) hWL.out.e1 (by show 0 + T0.length ≤ 900000; omega) (by omega) (fun w' hk => hM.out.below (hB2.trans (hk.toBelow hB2.size (fun k e => by have e3 : k = wr.heap.size:=e; omega))))
   have hs2:=hb2.size; have hW2:=Hj (own_below hOW.out hb2); generalize Cn.feed (Cn.new false []) (Cn.cuts T0 zs) = r1 at *; replace hB2:=Hj hB2; replace hC:=Hj hC; clear hA2 hb2 hRa hOW hzl hal; go_wp2_with fail
   refine hC.out.mono ?_
   rintro e w3 ⟨o,F3,es,rfl,hE3,hR3,hO3,hFF3,hk3,hA3⟩
   have hB3:=Hj (hB2.out.trans (hk3.toBelow hB2.out.size (fun k e => by have e3 : k = wr.heap.size:=e; omega)))
   have hW3:=Hj (hW2.out.kp (fun b e e2 => by have:=(hwl.out b e).2; have e3 : b = wr.heap.size:=e2; omega) hk3)
   have hG:=Hj (gathered_any o w3 hE3 (fun k h => h.2.1) hR3 hWL.out.d1 (by have:=hWL.out.n1; omega) (by have:=hWL.out.s1; omega))
   rw [hWL.out.g1] at hG
   obtain ⟨Ao,co,rfl,-,-,-⟩:=id hR3; replace hE3:=Hj hE3; replace hR3:=Hj hR3; clear hFF3 hk3 hA3 hO3 hC hW2; go_wp2_with fail
   refine hG.out.mono ?_
   rintro e w4 ⟨vg,rfl,hG4,hb4⟩
   have hB4:=Hj (hB3.out.trans (hb4.mono hB3.out.size)); obtain ⟨gs,hO4,hQ4⟩:=hG4.all
   rw [List.length_map] at hO4
   have hgR:=Hj (Rd.own hO4); have hgC:=Hj (hQ4.mono (Q:=fun k => k < w4.heap.size) (fun k h => h.1)); have hwR:=Hj (Rd.own (own_below hW3.out hb4)); have hE4:=Hj ((hE3.out.kp (Cn.kp_none hb4) (fun _ _ h => h)).mono (Q:=fun k => k < w4.heap.size) (fun k h => by have:=h.2.1; have:=hb4.size; omega))
   have hR4:=Hj (hR3.out.below hb4); have hs4:=hb4.size; obtain ⟨Ag,cg,rfl,-,-,-⟩:=id hgR.out; obtain ⟨Aw,cw,rfl,-,-,-⟩:=id hwR.out; clear hG hG4 hO4 hQ4 hb4 hE3 hR3 hW3; obtain ⟨N,hN⟩ : ∃ N,(Cn.wants l).length = N:=⟨_,rfl⟩
   rw [hN] at hgR hwR hwn ⊢
   have hq0 : ((N : Int) != (N : Int)) = false:=bne_self_eq_false _
   replace hN:=Hj hN; go_wp2; go_loopw [92] (fun i wr => ∃ k : Nat,i = .int .i64 (k : Int) ∧ k ≤ N ∧ Hid (Below w4.heap.size w4 wr)) (fun i _ => N - (intOf i).toNat)
   case atStart => exact ⟨0,rfl,Nat.zero_le _,Hj (Below.refl _ _)⟩
   case round =>
    obtain ⟨k,rfl,hk,hB⟩:=hrel
    by_cases hlt : k < N
    ·have hkw : k < (Cn.wants l).length:=by have:=hN.out; omega
     obtain ⟨zq,hzq,hxq⟩:=hgC.out.at_ (i:=k) (by rw [List.length_map]; exact hkw)
     rw [List.getElem_map] at hzq
     obtain ⟨Avf,nvf,cvf,Avb,cvb,Avs,nvs,cvs,rb,hxm⟩:=hMR.out.at_ hkw
     generalize (Cn.wants l)[k] = M at *; obtain ⟨qf,qb,rfl,f1,-,f3,-⟩:=hzq
     obtain ⟨A',cap',e',-,-,r'⟩:=hgR.out.below hB.out
     cases e'; obtain ⟨b1,o1,rfl,hb1',x1⟩:=r' (by omega)
     obtain ⟨A',cap',e',-,-,r'⟩:=hwR.out.below hB.out
     cases e'; obtain ⟨b2,o2,rfl,hb2',x2⟩:=r' (by omega)
     obtain ⟨Aqf,cqf,rfl,-⟩:=f1
     obtain ⟨Aqb,cqb,rfl,-⟩:=id f3; generalize (Cn.mRq M).fl.length = nqf at *; have f3' : Rd w4 1 (.slice Aqb M.body.length cqb) M.body.length (u8s M.body):=f3
     have d0 : wr.cell? ⟨b1,o1 + k * 5,none⟩ = some (.string (str M.m)):=x1 _ _ ((hxq 0 (by decide)).trans rfl)
     have d1 : wr.cell? ⟨b1,o1 + k * 5 + 1,none⟩ = some (.string (str M.t)):=x1 _ _ ((hxq 1 (by decide)).trans rfl)
     have d2 : wr.cell? ⟨b1,o1 + k * 5 + 2,none⟩ = some (.slice Aqf nqf cqf):=x1 _ _ ((hxq 2 (by decide)).trans rfl)
     have d3 : wr.cell? ⟨b1,o1 + k * 5 + 3,none⟩ = some (.slice Aqb M.body.length cqb):=x1 _ _ ((hxq 3 (by decide)).trans rfl)
     have d4 : wr.cell? ⟨b1,o1 + k * 5 + 4,none⟩ = some (.bool true):=x1 _ _ ((hxq 4 (by decide)).trans rfl)
     have g0 : wr.cell? ⟨b2,o2 + k * 6,none⟩ = some (.string (str M.m)):=x2 _ _ ((hxm 0 (by decide)).trans rfl)
     have g1 : wr.cell? ⟨b2,o2 + k * 6 + 1,none⟩ = some (.string (str M.t)):=x2 _ _ ((hxm 1 (by decide)).trans rfl)
     have g2 : wr.cell? ⟨b2,o2 + k * 6 + 2,none⟩ = some (.slice Avf nvf cvf):=x2 _ _ ((hxm 2 (by decide)).trans rfl)
     have g3 : wr.cell? ⟨b2,o2 + k * 6 + 3,none⟩ = some (.slice Avb M.body.length cvb):=x2 _ _ ((hxm 3 (by decide)).trans rfl)
     have g4 : wr.cell? ⟨b2,o2 + k * 6 + 4,none⟩ = some (.bool M.ch):=x2 _ _ ((hxm 4 (by decide)).trans rfl)
     have g5 : wr.cell? ⟨b2,o2 + k * 6 + 5,none⟩ = some (.slice Avs nvs cvs):=x2 _ _ ((hxm 5 (by decide)).trans rfl)
     have hby:=Hj (fun W (hb : Below w4.heap.size w4 W) => bytes_rd W (f3'.below hb) (rb.below (hB4.out.trans (hb.mono hB4.out.size)))); rw [decide_eq_true rfl] at hby
     clear x1 x2 r' hxq hxm f3 f3' rb; go_upto_region 23 with (fail)
     have hX1:=Blk.new wr 51 #[.string (str M.m),.string (str M.t),.slice Aqf nqf cqf,.slice Aqb M.body.length cqb,.bool true]; have hbx:=(Below.refl wr.heap.size wr).alloc (Nat.le_refl _) (.cells #[.string (str M.m),.string (str M.t),.slice Aqf nqf cqf,.slice Aqb M.body.length cqb,.bool true] 51); obtain ⟨G1,hG1⟩ : ∃ G1,wr.heap.size = G1:=⟨_,rfl⟩
     rw [hG1] at hX1 ⊢
     generalize wr.alloc (.cells #[.string (str M.m),.string (str M.t),.slice Aqf nqf cqf,.slice Aqb M.body.length cqb,.bool true] 51) = w5 at *; have hB5:=hB.out.trans (hbx.mono hB.out.size); have hX1l:=hX1.lt; clear d0 d1 d2 d3 d4 hG1; have g0:=(hbx.cell (p:=⟨b2,o2 + k * 6,none⟩) hb2').trans g0; have g1:=(hbx.cell (p:=⟨b2,o2 + k * 6 + 1,none⟩) hb2').trans g1; have g2:=(hbx.cell (p:=⟨b2,o2 + k * 6 + 2,none⟩) hb2').trans g2; have g3:=(hbx.cell (p:=⟨b2,o2 + k * 6 + 3,none⟩) hb2').trans g3; have g4:=(hbx.cell (p:=⟨b2,o2 + k * 6 + 4,none⟩) hb2').trans g4; have g5:=(hbx.cell (p:=⟨b2,o2 + k * 6 + 5,none⟩) hb2').trans g5; replace hX1:=Hj hX1; replace hB5:=Hj hB5; clear hbx hb1' hb2'; go_upto_region 24 with (fail)
     have hX2:=Blk.new w5 46 #[.string (str M.m),.string (str M.t),.slice Avf nvf cvf,.slice Avb M.body.length cvb,.bool M.ch,.slice Avs nvs cvs]; have hby5:=(Below.refl w5.heap.size w5).alloc (Nat.le_refl _) (.cells #[.string (str M.m),.string (str M.t),.slice Avf nvf cvf,.slice Avb M.body.length cvb,.bool M.ch,.slice Avs nvs cvs] 46); obtain ⟨G2,hG2⟩ : ∃ G2,w5.heap.size = G2:=⟨_,rfl⟩
     rw [hG2] at hX2 ⊢
     generalize w5.alloc (.cells #[.string (str M.m),.string (str M.t),.slice Avf nvf cvf,.slice Avb M.body.length cvb,.bool M.ch,.slice Avs nvs cvs] 46) = w6 at *; clear g0 g1 g2 g3 g4 g5 hG2; have hB6:=Hj (hB5.out.trans (hby5.mono hB5.out.size)); have hX1':=hX1.out.below hby5; have p0 : w6.cell? ⟨G1,0,none⟩ = some (.string (str M.m)):=hX1'.cell 0
     have p1 : w6.cell? ⟨G1,1,none⟩ = some (.string (str M.t)):=hX1'.cell 1
     have p3 : w6.cell? ⟨G1,3,none⟩ = some (.slice Aqb M.body.length cqb):=hX1'.cell 3
     have p4 : w6.cell? ⟨G1,4,none⟩ = some (.bool true):=hX1'.cell 4
     have m0 : w6.cell? ⟨G2,0,none⟩ = some (.string (str M.m)):=hX2.cell 0
     have m1 : w6.cell? ⟨G2,1,none⟩ = some (.string (str M.t)):=hX2.cell 1
     have m3 : w6.cell? ⟨G2,3,none⟩ = some (.slice Avb M.body.length cvb):=hX2.cell 3
     clear hX1 hX2 hX1' hby5 hX1l hB5; generalize str M.m = sm at *; generalize str M.t = st at *; have q1 : (sm.toList != sm.toList) = false:=bne_self_eq_false _
     have q2 : (st.toList != st.toList) = false:=bne_self_eq_false _
     go_wp2_with fail
     refine (hby.out _ hB6.out).mono ?_
     rintro e w7 ⟨rfl,hw7⟩
     subst w7; clear p0 p1 p3 p4 m0 m1 m3; go_wp2; go_roundw
     case rel => exact ⟨k + 1,by go_num,by omega,hB6⟩
     case measure => simp [intOf]; omega
    ·obtain rfl : k = N:=by omega
     clear hwl hq0 hMR hwR hs2 hs4 hal0 hB2 hB3; have hsw:=hB.out.size; have hBr:=Hj (hB4.out.trans (hB.out.mono hB4.out.size)); have hF:=Hj (format_any (l:=r1.2) _ wr (hE4.out.kp (Cn.kp_none hB.out) (fun _ _ h => h)) (fun k h => by have h2 : k < w4.heap.size:=h; omega) (hR4.out.below hB.out) hWL.out.q1 (by have:=hWL.out.n1; omega) ((hBr.out.cell (p:=⟨5,15,none⟩) hT5).trans hT.out))
     have hgR1:=Hj (hgR.out.below hB.out); have hgC1:=Hj ((hgC.out.kp (Cn.kp_none hB.out) (fun _ _ h => h)).mono (Q:=fun k => k < wr.heap.size) (fun k h => by have h2 : k < w4.heap.size:=h; omega))
     clear hE4 hR4 hgR hgC; go_wp2_with fail
     refine hF.out.mono ?_
     rintro e w5 ⟨ob,rfl,hob,hb5⟩
     replace hob:=hob hWL.out.f0; rw [hWL.out.f0,errV_zero]
     have hfl:=hWL.out.fl; have he2:=hWL.out.e2; have hg2:=hWL.out.g2; have hd2:=hWL.out.d2; have hn2:=hWL.out.n2; have hs2:=hWL.out.s2; have hfw:=hWL.out.fw; generalize (Cn.fmt Cn.fs0 r1.2).2.out = T1 at *; obtain ⟨Ab,cb,rfl,-,-,-⟩:=id (Rd.own hob)
     have hB5:=Hj (hBr.out.trans (hb5.mono hBr.out.size)); have hg5:=Hj (hgR1.out.below hb5); have hc5:=Hj ((hgC1.out.kp (Cn.kp_none hb5) (fun _ _ h => h)).mono (Q:=fun k => k < w5.heap.size) (fun k h => by have h2 : k < wr.heap.size:=h; have:=hb5.size; omega))
     have hbl : ∀ b,(Value.slice Ab T1.length cb).ownBlock = some b → b < w5.heap.size:=fun b e => (World.ownsRow.lt hob b e).2
     have hRb:=Hj (Rd.own hob); have hz5:=hB5.out.size; replace hbl:=Hj hbl; replace he2:=Hj he2; replace hg2:=Hj hg2; replace hd2:=Hj hd2; replace hn2:=Hj hn2; replace hs2:=Hj hs2; replace hfw:=Hj hfw; clear hF hob hb5 hgR1 hgC1 hWL; go_wp2_with fail
     refine (newreq_any w5).mono ?_
     rintro e w6 ⟨rfl,hw6⟩
     have hA6 : Cn.At w6 w5.heap.size (· = w5.heap.size) (Cn.new false []):=by rw [hw6]; exact newreq_at w5
     have hb6 : Below w5.heap.size w5 w6:=by rw [hw6]; exact (Below.refl _ _).alloc (Nat.le_refl _) _
     clear hw6; have hB6:=hB5.out.trans (hb6.mono hB5.out.size); have hC:=wcut_any hA6 T1 ys Ab Ay cb cy (hRb.out.below hb6) (hy.out.below hB6) (fun b e e2 => by have:=hbl.out b e; have e3 : b = w5.heap.size:=e2; omega) (fun h0 b e e2 => by have:=hyl.out h0 b e; have e3 : b = w5.heap.size:=e2; omega) he2.out (by show 0 + T1.length ≤ 900000; omega) (by omega) (fun w' hk => hM.out.below (hB6.trans (hk.toBelow hB6.size (fun k e => by have e3 : k = w5.heap.size:=e; omega))))
     generalize Cn.feed (Cn.new false []) (Cn.cuts T1 ys) = r2 at *; replace hB6:=Hj hB6; replace hC:=Hj hC; replace hb6:=Hj hb6; clear hA6 hRb hyl hbl; go_wp2_with fail
     refine hC.out.mono ?_
     rintro e w7 ⟨o,F7,es2,rfl,hE7,hR7,hO7,hFF7,hk7,hA7⟩
     have hb57:=hb6.out.trans (hk7.toBelow hb6.out.size (fun k e => by have e3 : k = w5.heap.size:=e; omega))
     have hB7:=Hj (hB5.out.trans (hb57.mono hB5.out.size)); have hG:=Hj (gathered_any o w7 hE7 (fun k h => h.2.1) hR7 hd2.out (by have:=hn2.out; omega) (by have:=hs2.out; omega))
     rw [hg2.out] at hG
     obtain ⟨Ao2,co2,rfl,-,-,-⟩:=id hR7; replace hb57:=Hj hb57; clear hFF7 hk7 hA7 hO7 hC hE7 hR7 hd2 hn2 hs2 he2 hB6 hb6 hB5; go_wp2_with fail
     refine hG.out.mono ?_
     rintro e w8 ⟨vg,rfl,hG8,hb8⟩
     have hB8:=Hj (hB7.out.trans (hb8.mono hB7.out.size)); have hb58:=hb57.out.trans (hb8.mono hb57.out.size); obtain ⟨gs2,hO8,hQ8⟩:=hG8.all
     rw [List.length_map,hN.out] at hO8
     have hR8:=Hj (Rd.own hO8); have hC8:=Hj (hQ8.mono (Q:=fun k => k < w8.heap.size) (fun k h => h.1)); have hg8:=Hj (hg5.out.below hb58); have hc8:=Hj ((hc5.out.kp (Cn.kp_none hb58) (fun _ _ h => h)).mono (Q:=fun k => k < w8.heap.size) (fun k h => by have h2 : k < w5.heap.size:=h; have:=hb58.size; omega))
     obtain ⟨Ah,ch,rfl,-,-,-⟩:=id hR8.out; clear hG hG8 hO8 hQ8 hb8 hb57 hb58 hg5 hc5 hB7; have hq0 : ((k : Int) != (k : Int)) = false:=bne_self_eq_false _
     go_wp2; go_loopw [156] (fun i wr => ∃ j : Nat,i = .int .i64 (j : Int) ∧ j ≤ k ∧ Hid (Below w8.heap.size w8 wr)) (fun i _ => k - (intOf i).toNat)
     case atStart => exact ⟨0,rfl,Nat.zero_le _,Hj (Below.refl _ _)⟩
     case round =>
      obtain ⟨j,rfl,hj,hD⟩:=hrel
      have hBj:=Hj (hB8.out.trans (hD.out.mono hB8.out.size)); by_cases hlt2 : j < k
      ·have hkw : j < (Cn.wants l).length:=by have:=hN.out; omega
       obtain ⟨zq,hzq,hxq⟩:=hc8.out.at_ (i:=j) (by rw [List.length_map]; exact hkw)
       obtain ⟨zp,hzp,hxp⟩:=hC8.out.at_ (i:=j) (by rw [List.length_map]; exact hkw)
       rw [List.getElem_map] at hzq hzp
       have hff:=hfw.out _ (List.getElem_mem hkw); generalize (Cn.wants l)[j] = M at *; obtain ⟨qf,qb,rfl,f1,-,f3,-⟩:=hzq
       obtain ⟨pf,pb,rfl,p1,-,p3,-⟩:=hzp
       obtain ⟨A',cap',e',-,-,r'⟩:=hg8.out.below hD.out
       cases e'; obtain ⟨b1,o1,rfl,hb1',x1⟩:=r' (by omega)
       obtain ⟨A',cap',e',-,-,r'⟩:=hR8.out.below hD.out
       cases e'; obtain ⟨b3,o3,rfl,hb3',x3⟩:=r' (by omega)
       obtain ⟨L,hLe⟩ : ∃ L,(Cn.mRq M).fl = L:=⟨_,rfl⟩
       rw [hLe] at f1 p1
       have hff' : Cn.Fw L:=by rw [← hLe]; exact hff
       clear hLe hff; obtain ⟨Aq,cq,rfl,-⟩:=id f1; obtain ⟨Ap,cp,rfl,-⟩:=id p1; obtain ⟨Aqb,cqb,rfl,-⟩:=id f3; obtain ⟨Apb,cpb,rfl,-⟩:=id p3; have f3' : Rd w8 1 (.slice Aqb M.body.length cqb) M.body.length (u8s M.body):=f3
       have p3' : Rd w8 1 (.slice Apb M.body.length cpb) M.body.length (u8s M.body):=p3
       have hby:=Hj (fun W (hb : Below w8.heap.size w8 W) => bytes_rd W (p3'.below hb) (f3'.below hb)); rw [decide_eq_true rfl] at hby
       have hsm:=Hj (fun W (hb : Below w8.heap.size w8 W) => same_any L Ap Aq cp cq W (p1.below hb) (f1.below hb) hff'.2 hff'.1); obtain ⟨st,hst⟩ : ∃ st,str M.t = st:=⟨_,rfl⟩
       have d1 : wr.cell? ⟨b1,o1 + j * 5 + 1,none⟩ = some (.string st):=x1 _ _ ((hxq 1 (by decide)).trans (by rw [← hst]; rfl))
       have d2 : wr.cell? ⟨b1,o1 + j * 5 + 2,none⟩ = some (.slice Aq L.length cq):=x1 _ _ ((hxq 2 (by decide)).trans rfl)
       have d3 : wr.cell? ⟨b1,o1 + j * 5 + 3,none⟩ = some (.slice Aqb M.body.length cqb):=x1 _ _ ((hxq 3 (by decide)).trans rfl)
       have g1 : wr.cell? ⟨b3,o3 + j * 5 + 1,none⟩ = some (.string st):=x3 _ _ ((hxp 1 (by decide)).trans (by rw [← hst]; rfl))
       have g2 : wr.cell? ⟨b3,o3 + j * 5 + 2,none⟩ = some (.slice Ap L.length cp):=x3 _ _ ((hxp 2 (by decide)).trans rfl)
       have g3 : wr.cell? ⟨b3,o3 + j * 5 + 3,none⟩ = some (.slice Apb M.body.length cpb):=x3 _ _ ((hxp 3 (by decide)).trans rfl)
       have g4 : wr.cell? ⟨b3,o3 + j * 5 + 4,none⟩ = some (.bool true):=x3 _ _ ((hxp 4 (by decide)).trans rfl)
       have hR0:=Hj (Below.refl wr.heap.size wr); have hS : ∀ w',Below wr.heap.size wr w' → w'.cell? ⟨b3,o3 + j * 5 + 4,none⟩ = some (.bool true) ∧ w'.cell? ⟨b3,o3 + j * 5 + 1,none⟩ = some (.string st) ∧ w'.cell? ⟨b3,o3 + j * 5 + 2,none⟩ = some (.slice Ap L.length cp) ∧ w'.cell? ⟨b3,o3 + j * 5 + 3,none⟩ = some (.slice Apb M.body.length cpb) ∧ w'.cell? ⟨b1,o1 + j * 5 + 1,none⟩ = some (.string st) ∧ w'.cell? ⟨b1,o1 + j * 5 + 2,none⟩ = some (.slice Aq L.length cq) ∧ w'.cell? ⟨b1,o1 + j * 5 + 3,none⟩ = some (.slice Aqb M.body.length cqb):=fun w' hb => ⟨(hb.cell (p:=⟨b3,o3 + j * 5 + 4,none⟩) hb3').trans g4,(hb.cell (p:=⟨b3,o3 + j * 5 + 1,none⟩) hb3').trans g1,(hb.cell (p:=⟨b3,o3 + j * 5 + 2,none⟩) hb3').trans g2,(hb.cell (p:=⟨b3,o3 + j * 5 + 3,none⟩) hb3').trans g3,(hb.cell (p:=⟨b1,o1 + j * 5 + 1,none⟩) hb1').trans d1,(hb.cell (p:=⟨b1,o1 + j * 5 + 2,none⟩) hb1').trans d2,(hb.cell (p:=⟨b1,o1 + j * 5 + 3,none⟩) hb1').trans d3⟩
       replace hS:=Hj hS; have q2 : (st.toList != st.toList) = false:=bne_self_eq_false _
       have hDs:=hD.out.size; clear x1 x3 r' hxq hxp f1 f3 f3' p1 p3 p3' hst hff'; go_wp2_with fail
       go_region_held3 (fun w' => w'.cell? ⟨b3,o3 + j * 5 + 4,none⟩ = some (.bool true) ∧ w'.cell? ⟨b3,o3 + j * 5 + 1,none⟩ = some (.string st) ∧ w'.cell? ⟨b3,o3 + j * 5 + 2,none⟩ = some (.slice Ap L.length cp) ∧ w'.cell? ⟨b3,o3 + j * 5 + 3,none⟩ = some (.slice Apb M.body.length cpb) ∧ w'.cell? ⟨b1,o1 + j * 5 + 1,none⟩ = some (.string st) ∧ w'.cell? ⟨b1,o1 + j * 5 + 2,none⟩ = some (.slice Aq L.length cq) ∧ w'.cell? ⟨b1,o1 + j * 5 + 3,none⟩ = some (.slice Aqb M.body.length cqb))
        (first | exact hS.out _ (by first | with_reducible exact hR0.out | with_reducible exact hR0.out.drew | with_reducible exact hRT.out | with_reducible exact hRT.out.drew))
        (first
         | (go_at_call 17; (first | with_reducible refine Calls.mono (hsm.out wr hD.out) ?_ | with_reducible refine Calls.mono (hsm.out wr.drew hD.out.drew) ?_); rintro e wT ⟨rfl,hbT⟩; have hRT:=Hj (show Below wr.heap.size wr wT by first | exact hbT | exact below_of_drew hbT); have hDT:=Hj (hD.out.trans (hRT.out.mono hD.out.size)); clear hbT)
         | (go_at_call 15; (first | with_reducible refine Calls.mono (hby.out wT hDT.out) ?_ | with_reducible refine Calls.mono (hby.out wT.drew hDT.out.drew) ?_); rintro e wU ⟨rfl,hwU⟩; subst wU))
       all_goals
        clear d1 d2 d3 g1 g2 g3 g4; go_wp2; go_roundw
        case rel => exact ⟨j + 1,by go_num,by omega,by first | exact hDT | exact Hj hDT.out.drew⟩
        case measure => simp [intOf]; omega
      ·go_wp2
       go_ret; exact ⟨rfl,hBj.out⟩
end Go.Proofs.YtjffffpfejmoiaaGreatDoor
