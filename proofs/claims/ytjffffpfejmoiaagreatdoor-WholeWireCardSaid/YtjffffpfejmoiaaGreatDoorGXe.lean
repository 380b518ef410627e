import Derived.Test.YtjffffpfejmoiaaGreatDoorNEv
import Derived.Test.YtjffffpfejmoiaaGreatDoorDMem
import Derived.Test.YtjffffpfejmoiaaGreatDoorDJoin
import Derived.Deep.RegionHeld3
import Derived.Deep.AppendLies
import Derived.Deep.RegionLaw
namespace Go.Proofs.YtjffffpfejmoiaaGreatDoor
open Go.RowKit Syn Hd Fr Ck
namespace Cn
structure Rq where
 m : List UInt8
 t : List UInt8
 fl : Flds
 body : List UInt8
 ended : Bool
def gath (o : List Rq) (e : Ev) : List Rq :=
 if e.kind = 1 then o ++ [⟨e.m,e.t,e.rf,[],false⟩] else match o.getLast? with
  | none => o
  | some r => o.dropLast ++ [if e.kind = 2 then { r with body:=r.body ++ e.data } else { r with ended:=true }]
def gathered (l : List Ev) : List Rq:=l.foldl gath []
theorem gath_head {o : List Rq} {e : Ev} (h : e.kind = 1) : gath o e = o ++ [⟨e.m,e.t,e.rf,[],false⟩]:=if_pos h
theorem gath_none {e : Ev} (h : e.kind ≠ 1) : gath [] e = []:=if_neg h
theorem gath_data {o : List Rq} {r : Rq} {e : Ev} (h : e.kind = 2) : gath (o ++ [r]) e = o ++ [{ r with body:=r.body ++ e.data }]:=by
 unfold gath
 rw [if_neg (by omega),List.getLast?_append,List.getLast?_singleton,List.dropLast_concat]
 simp [h]
theorem gath_end {o : List Rq} {r : Rq} {e : Ev} (h1 : e.kind ≠ 1) (h2 : e.kind ≠ 2) : gath (o ++ [r]) e = o ++ [{ r with ended:=true }]:=by
 unfold gath
 rw [if_neg h1,List.getLast?_append,List.getLast?_singleton,List.dropLast_concat]
 simp [h2]
theorem gathered_snoc (l : List Ev) (e : Ev) : gathered (l ++ [e]) = gath (gathered l) e:=by
 unfold gathered
 rw [List.foldl_append]; rfl
theorem gath_cnt (o : List Rq) (e : Ev) : (gath o e).length ≤ o.length + 1:=by
 rcases List.eq_nil_or_concat o with rfl | ⟨i,r,rfl⟩
 ·by_cases h : e.kind = 1
  ·rw [gath_head h]; simp
  ·rw [gath_none h]; simp
 ·rw [List.concat_eq_append]
  by_cases h : e.kind = 1
  ·rw [gath_head h]; simp
  ·by_cases h2 : e.kind = 2
   ·rw [gath_data h2]; simp
   ·rw [gath_end h h2]; simp
theorem gath_len {n : Nat} {o : List Rq} {e : Ev} (h : ∀ r ∈ o,r.body.length ≤ n) : ∀ r ∈ gath o e,r.body.length ≤ n + e.data.length:=by
 intro r hr; rcases List.eq_nil_or_concat o with rfl | ⟨i,q,rfl⟩
 ·by_cases h1 : e.kind = 1
  ·rw [gath_head h1] at hr
   obtain rfl:=List.mem_singleton.1 hr
   exact Nat.zero_le _
  ·rw [gath_none h1] at hr; cases hr
 ·rw [List.concat_eq_append] at h hr
  by_cases h1 : e.kind = 1
  ·rw [gath_head h1] at hr
   rcases List.mem_append.1 hr with hr | hr
   ·have:=h r hr; omega
   ·obtain rfl:=List.mem_singleton.1 hr
    exact Nat.zero_le _
  ·have hq:=h q (by simp)
   by_cases h2 : e.kind = 2
   ·rw [gath_data h2] at hr
    rcases List.mem_append.1 hr with hr | hr
    ·have:=h r (List.mem_append_left _ hr); omega
    ·obtain rfl:=List.mem_singleton.1 hr
     show (q.body ++ e.data).length ≤ _
     rw [List.length_append]; omega
   ·rw [gath_end h1 h2] at hr
    rcases List.mem_append.1 hr with hr | hr
    ·have:=h r (List.mem_append_left _ hr); omega
    ·obtain rfl:=List.mem_singleton.1 hr
     show q.body.length ≤ _
     omega
theorem gathered_len : ∀ (l : List Ev) (o : List Rq) (n : Nat),(∀ r ∈ o,r.body.length ≤ n) → (∀ r ∈ l.foldl gath o,r.body.length ≤ n + dsum l) ∧ (l.foldl gath o).length ≤ o.length + l.length
 | [],o,n,h => ⟨fun r hr => Nat.le_trans (h r hr) (Nat.le_add_right _ _),Nat.le_refl _⟩
 | e :: l,o,n,h => by
  obtain ⟨h1,h2⟩:=gathered_len l (gath o e) (n + e.data.length) (gath_len h)
  have h3:=gath_cnt o e; refine ⟨fun r hr => ?_,?_⟩
  ·have:=h1 r hr
   unfold dsum at this ⊢
   rw [List.map_cons,List.sum_cons]; omega
  ·rw [List.foldl_cons,List.length_cons]; omega
def RqC (w : World) (P : Nat → Prop) (r : Rq) (xs : List Value) : Prop :=
 ∃ vf vb,xs = [.string (str r.m),.string (str r.t),vf,vb,.bool r.ended] ∧ Rd w 2 vf r.fl.length (prs r.fl) ∧ On P vf ∧ Rd w 1 vb r.body.length (u8s r.body) ∧ On P vb
inductive RqsC (w : World) (P : Nat → Prop) : List Rq → List Value → Prop
 | nil : RqsC w P [] []
 | cons {e : Rq} {l : List Rq} {xs ys : List Value} : RqC w P e xs → RqsC w P l ys → RqsC w P (e :: l) (xs ++ ys)
section
variable {w w' : World} {P Q G : Nat → Prop} {e : Rq} {l m : List Rq} {xs ys : List Value}
theorem RqC.len (h : RqC w P e xs) : xs.length = 5:=by
 obtain ⟨_,_,rfl,-⟩:=h; rfl
theorem RqC.mono (h : RqC w P e xs) (hq : ∀ k,P k → Q k) : RqC w Q e xs:=by
 obtain ⟨a,b,h0,h1,h2,h3,h4⟩:=h
 exact ⟨a,b,h0,h1,h2.mono hq,h3,h4.mono hq⟩
theorem RqC.kp (h : RqC w P e xs) (hk : Kp G w w') (hq : ∀ k,P k → ¬ G k) : RqC w' P e xs:=by
 obtain ⟨a,b,h0,h1,h2,h3,h4⟩:=h
 exact ⟨a,b,h0,h1.kp (h2.off hq) hk,h2,h3.kp (h4.off hq) hk,h4⟩
theorem RqsC.len (h : RqsC w P l xs) : xs.length = l.length * 5:=by
 induction h with
 | nil => rfl
 | cons h1 h2 ih => rw [List.length_append,h1.len,ih,List.length_cons]; omega
theorem RqsC.mono (h : RqsC w P l xs) (hq : ∀ k,P k → Q k) : RqsC w Q l xs:=by
 induction h with
 | nil => exact .nil
 | cons h1 h2 ih => exact .cons (h1.mono hq) ih
theorem RqsC.kp (h : RqsC w P l xs) (hk : Kp G w w') (hq : ∀ k,P k → ¬ G k) : RqsC w' P l xs:=by
 induction h with
 | nil => exact .nil
 | cons h1 h2 ih => exact .cons (h1.kp hk hq) ih
theorem RqsC.app (h : RqsC w P l xs) (h2 : RqsC w P m ys) : RqsC w P (l ++ m) (xs ++ ys):=by
 induction h with
 | nil => exact h2
 | cons h1 h3 ih => rw [List.append_assoc]; exact .cons h1 ih
theorem RqsC.snoc (h : RqsC w P l xs) (h2 : RqC w P e ys) : RqsC w P (l ++ [e]) (xs ++ ys):=h.app (by
 have:=RqsC.cons h2 (.nil (w:=w) (P:=P))
 rwa [List.append_nil] at this)
theorem RqsC.at_ (h : RqsC w P l xs) : ∀ {i : Nat} (hi : i < l.length),∃ ys,RqC w P l[i] ys ∧ ∀ j,j < 5 → xs[i * 5 + j]? = ys[j]?:=by
 induction h with
 | nil => intro i hi; cases hi
 | @cons e l a b h1 h2 ih =>
  intro i hi; cases i with
  | zero => exact ⟨a,h1,fun j hj => by rw [Nat.zero_mul,Nat.zero_add,List.getElem?_append_left (by rw [h1.len]; exact hj)]⟩
  | succ i =>
   obtain ⟨ys,e1,e2⟩:=ih (i:=i) (by simpa using hi)
   refine ⟨ys,e1,fun j hj => ?_⟩
   rw [List.getElem?_append_right (by rw [h1.len]; omega),h1.len,show (i + 1) * 5 + j - 5 = i * 5 + j by omega]
   exact e2 j hj
end
def GQ (wr : World) (v vb : Value) (k : Nat) : Prop:=k < wr.heap.size ∧ v.ownBlock ≠ some k ∧ vb.ownBlock ≠ some k
def GI (w : World) (v : Value) (wr : World) (o : List Rq) : Prop :=
 (o = [] ∧ v = .slice none 0 0) ∨ ∃ init r ys0 vf vb,o = init ++ [r] ∧ Own wr w.heap.size 51 5 v (init.length + 1) (ys0 ++ [.string (str r.m),.string (str r.t),vf,vb,.bool r.ended]) ∧ RqsC wr (GQ wr v vb) init ys0 ∧
  Rd wr 2 vf r.fl.length (prs r.fl) ∧ On (GQ wr v vb) vf ∧ Own wr w.heap.size 5 1 vb r.body.length (u8s r.body)
theorem GI.all {w wr : World} {v : Value} {o : List Rq} (h : GI w v wr o) : ∃ ys,Own wr w.heap.size 51 5 v o.length ys ∧ RqsC wr (fun k => k < wr.heap.size ∧ v.ownBlock ≠ some k) o ys:=by
 rcases h with ⟨rfl,rfl⟩ | ⟨init,r,ys0,vf,vb,rfl,h1,h2,h3,h4,h5⟩
 ·exact ⟨[],own_nil _ _ _ _,.nil⟩
 ·refine ⟨_,by rw [List.length_append,List.length_singleton]; exact h1,(h2.mono (fun k h => ⟨h.1,h.2.1⟩)).snoc ⟨vf,vb,rfl,h3,h4.mono (fun k h => ⟨h.1,h.2.1⟩),Rd.own h5,fun k e => ⟨(World.ownsRow.lt h5 k e).2,fun e2 => Own.apart h1 h5 (by decide) e2 e⟩⟩⟩
end Cn
theorem own_set5 {w : World} {B n cap g : Nat} {t : TypeId} {xs : List Value} (h : Own w B t 5 (.slice (some ⟨g,0,none⟩) n cap) n xs) (k : Nat) (u : Value) : Own (w.setCell ⟨g,k,none⟩ u) B t 5 (.slice (some ⟨g,0,none⟩) n cap) n (xs.set k u):=by
 obtain ⟨hl,h⟩:=h
 rcases h with ⟨h1,-⟩ | ⟨g',cap',cur,e,hB,hg,hnc,hm,hs,ht⟩
 ·cases h1
 ·cases e
  have hb : Blk w g t cur:=hg
  have hb2:=hb.set_ k u; refine ⟨by rw [List.length_set]; exact hl,.inr ⟨g,cap,_,rfl,hB,hb2,hnc,hm,by rw [Array.size_setIfInBounds]; exact hs,?_⟩⟩
  rw [Array.toList_setIfInBounds,List.take_set,ht]
theorem own_at5 {w : World} {B n : Nat} {t : TypeId} {v : Value} {xs : List Value} (h : Own w B t 5 v n xs) (hn : 0 < n) : ∃ g cap,v = .slice (some ⟨g,0,none⟩) n cap ∧ B ≤ g ∧ g < w.heap.size ∧ ∀ j u,xs[j]? = some u → w.cell? ⟨g,j,none⟩ = some u ∧ w.frozen? ⟨g,j,none⟩ = false:=by
 obtain ⟨hl,h⟩:=h
 rcases h with ⟨h1,h2⟩ | ⟨g,cap,cur,e,hB,hg,hnc,hm,hs,ht⟩
 ·exact absurd hn (by omega)
 ·have hb : Blk w g t cur:=hg
  refine ⟨g,cap,e,hB,hb.lt,fun j u hu => ⟨?_,hb.frozen j⟩⟩
  rw [hb.cell j]
  rw [← ht,List.getElem?_take] at hu
  split at hu
  ·rw [← hu,Array.getElem?_toList]
  ·cases hu
theorem infoRq : (Tryz.prog.info? 51).map (fun i => (i.zero,i.size,i.bytes)) = some (some (.agg #[.string ⟨#[]⟩,.string ⟨#[]⟩,.slice none 0 0,.slice none 0 0,.bool false]),5,88):=by kernel_rfl
theorem rd_one5 (w : World) (t : TypeId) (u0 u1 u2 u3 u4 : Value) : Rd (w.alloc (.cells #[u0,u1,u2,u3,u4] t)) 5 (.slice (some ⟨w.heap.size,0,none⟩) 1 1) 1 [u0,u1,u2,u3,u4]:=by
 refine ⟨_,_,rfl,Nat.le_refl _,rfl,fun _ => ⟨w.heap.size,0,rfl,by rw [alloc_size']; omega,fun j u hu => ?_⟩⟩
 rw [Nat.zero_add,(Blk.new w t #[u0,u1,u2,u3,u4]).cell j]
 have e : ([u0,u1,u2,u3,u4].toArray)[j]? = [u0,u1,u2,u3,u4][j]?:=List.getElem?_toArray
 exact e.trans hu
theorem push_rq {ops : Array Oper} {rest : List Oper} {o : Oper} {a : Act} {Q : Exit → Act → World → Prop} {w : World} (s x : Operand)
  (hgd : o.guard = none) (ho : o.op = .call { callee:=.builtin .append,args:=#[s,x],argTypes:=#[41,41] })
  {B n : Nat} {v u0 u1 u2 u3 u4 : Value} {xs : List Value} (hs : a.eval s = v) (hown : Own w B 51 5 v n xs) (hx : a.eval x = .slice (some ⟨w.heap.size,0,none⟩) 1 1)
  (h1 : ∀ u ∈ [u0,u1,u2,u3,u4],u.oneCell' = true) (hn : n < 10000000) (hB : B ≤ w.heap.size)
  (h : ∀ v' w',Own w' B 51 5 v' (n + 1) (xs ++ [u0,u1,u2,u3,u4]) → (w.alloc (.cells #[u0,u1,u2,u3,u4] 51)).grownBy w' v.ownBlock → (v'.ownBlock = v.ownBlock ∨ v'.ownBlock = some (w.heap.size + 1)) → wpList Tryz.prog ops Q rest (a.put o.dst v') w') :
  wpList Tryz.prog ops Q (o :: rest) a (w.alloc (.cells #[u0,u1,u2,u3,u4] 51)):=by
 refine step_pushR 41 51 _ 5 88 s x hgd ho Tryz.underlying41 infoRq rfl (by decide) (by decide) hs (hown.alloc _) hx (rd_one5 w _ u0 u1 u2 u3 u4) h1 (by omega) (by rw [alloc_size']; omega) ?_
 intro v' w' ho' hg hat; exact h v' w' ho' hg (by rwa [alloc_size'] at hat)
end Go.Proofs.YtjffffpfejmoiaaGreatDoor
namespace Go.Proofs.YtjffffpfejmoiaaGreatDoor
open Go.RowKit Syn Hd Fr Ck
theorem stepD_bytes {ops : Array Oper} {o : Oper} {a : Act} {K : Act → World → Prop} {Q : Exit → Act → World → Prop} {E : Prop} {w : World} (s x : Operand)
  (hgd : o.guard = none) (ho : o.op = .call { callee:=.builtin .append,args:=#[s,x],argTypes:=#[23,23] })
  {B n m c : Nat} {v : Value} {xs : List Value} {ad : Addr} {l : List UInt8} (hs : a.eval s = v) (hown : Own w B 5 1 v n xs) (hx : a.eval x = .slice (some ad) m c) (hl : l.length = m) (hR : Rd w 1 (.slice (some ad) m c) m (u8s l))
  (hm : 0 < m) (hn : n + m ≤ 100000000) (hB : B ≤ w.heap.size)
  (h : ∀ v' w',Own w' B 5 1 v' (n + m) (xs ++ u8s l) → w.grownBy w' v.ownBlock → (v'.ownBlock = v.ownBlock ∨ v'.ownBlock = some w.heap.size) → K (a.put o.dst v') w') :
  if Region.wanted o (yielded ops a.tmps) = true then Oper.wp Tryz.prog o a w K Q else E:=by
 obtain ⟨i0,hi0,hz0,hz1,hz2⟩:=info_parts infoU8
 obtain ⟨A',c',e',-,-,hr⟩:=hR
 cases e'; obtain ⟨b,of,e2,-,hx2⟩:=hr hm
 cases e2
 refine step_append_lies w hgd s x _ ho B _ i0 _ 1 1 Tryz.underlying23 hi0 hz0 hz1 hz2 rfl (by omega) v n xs hs hown ⟨b,of,none⟩ m c (u8s l) hx (by rw [u8s_length,hl,Nat.mul_one]) (fun j u hu => ?_) (fun u hu => ?_) hm (by have : maxLen = 9223372036854775807:=rfl; omega) (by omega) hB w.heap.size rfl ?_
 ·have hadd : (⟨b,of,none⟩ : Addr).add j = ⟨b,of + j,none⟩:=by unfold Addr.add; split <;> simp_all
  rw [hadd]; exact hx2 j u hu
 ·obtain ⟨y,-,rfl⟩:=List.mem_map.1 hu; rfl
 ·intro gg cap w' ho' hg hat _
  exact h _ w' ho' hg (hat.elim (fun e => .inl (by rw [e]; rfl)) (fun e => .inr (by rw [e]; rfl)))
set_option maxRecDepth 100000 in
set_option maxHeartbeats 16000000 in
theorem gathered_any {l : List Cn.Ev} {Q : Nat → Prop} {xs : List Value} (v : Value) (w : World) (hE : Cn.EvsC w Q l xs) (hQ : ∀ k,Q k → k < w.heap.size) (hR : Rd w 8 v l.length xs) (hd : ∀ e ∈ l,e.kind = 2 → e.data ≠ []) (hn : l.length ≤ 1000000) (hs : Cn.dsum l ≤ 4000000) :
  Calls Tryz.prog 11 #[v] w fun e w' => ∃ o,e = .returned o ∧ Cn.GI w o w' (Cn.gathered l) ∧ Below w.heap.size w w':=by
 obtain ⟨A,cap,rfl,hcap,-,-⟩:=id hR; replace hR:=Hj hR; replace hE:=Hj hE; replace hQ:=Hj hQ; replace hd:=Hj hd; have hlen : ∀ k,(∀ r ∈ Cn.gathered (l.take k),r.body.length ≤ 4000000) ∧ (Cn.gathered (l.take k)).length ≤ 1000000:=fun k => by
  obtain ⟨h1,h2⟩:=Cn.gathered_len (l.take k) [] 0 (fun r hr => by cases hr)
  have h3:=Cn.dsum_take l k; refine ⟨fun r hr => ?_,?_⟩
  ·have:=h1 r hr; omega
  ·have h4 : (Cn.gathered (l.take k)).length ≤ 0 + (l.take k).length:=h2
   rw [List.length_take] at h4; omega
 replace hlen:=Hj hlen; go_enter Tryz.func11,Tryz.ntmps11
 go_wp2; go_loopw [3,8] (fun o i wr => ∃ k : Nat,i = .int .i64 (k : Int) ∧ k ≤ l.length ∧ Hid (Cn.GI w o wr (Cn.gathered (l.take k))) ∧ Hid (Below w.heap.size w wr)) (fun _ i _ => l.length - (intOf i).toNat)
 case atStart => exact ⟨0,rfl,Nat.zero_le _,Hj (.inl ⟨rfl,rfl⟩),Hj (Below.refl _ _)⟩
 case round =>
  obtain ⟨k,rfl,hk,hG,hB⟩:=hrel
  have hBw:=hB.out.size; by_cases hlt : k < l.length
  ·obtain ⟨zs,hz,hx⟩:=(hE.out.at_ hlt)
   have hdk:=hd.out _ (List.getElem_mem hlt); have htk : Cn.gathered (l.take (k + 1)) = Cn.gath (Cn.gathered (l.take k)) l[k]:=by rw [List.take_succ_eq_append_getElem hlt,Cn.gathered_snoc]
   obtain ⟨hb1,hb2⟩:=hlen.out k
   have hb3:=(hlen.out (k + 1)).1; rw [htk] at hb3
   generalize l[k] = ev at *; generalize Cn.gathered (l.take k) = o at *; obtain ⟨vr,vs,vd,vt,rfl,r1,o1',r2,-,r3,o3',r4,-⟩:=hz
   obtain ⟨A',cap',e',-,-,r'⟩:=hR.out.below hB.out
   cases e'; obtain ⟨b1,o1,rfl,_,x1⟩:=r' (by omega)
   have d0 : wr.cell? ⟨b1,o1 + k * 8,none⟩ = some (.int .i64 (ev.kind : Int)):=x1 _ _ ((hx 0 (by decide)).trans rfl)
   have d1 : wr.cell? ⟨b1,o1 + k * 8 + 1,none⟩ = some (.string (str ev.m)):=x1 _ _ ((hx 1 (by decide)).trans rfl)
   have d2 : wr.cell? ⟨b1,o1 + k * 8 + 2,none⟩ = some (.string (str ev.t)):=x1 _ _ ((hx 2 (by decide)).trans rfl)
   have d3 : wr.cell? ⟨b1,o1 + k * 8 + 3,none⟩ = some vr:=x1 _ _ ((hx 3 (by decide)).trans rfl)
   have d4 : wr.cell? ⟨b1,o1 + k * 8 + 4,none⟩ = some (.int .i64 ev.st):=x1 _ _ ((hx 4 (by decide)).trans rfl)
   have d5 : wr.cell? ⟨b1,o1 + k * 8 + 5,none⟩ = some vs:=x1 _ _ ((hx 5 (by decide)).trans rfl)
   have d6 : wr.cell? ⟨b1,o1 + k * 8 + 6,none⟩ = some vd:=x1 _ _ ((hx 6 (by decide)).trans rfl)
   have d7 : wr.cell? ⟨b1,o1 + k * 8 + 7,none⟩ = some vt:=x1 _ _ ((hx 7 (by decide)).trans rfl)
   have hrR:=r1.below hB.out; have hrD:=r3.below hB.out; clear x1 r' hx; obtain ⟨Ar,cr,rfl,-,-,-⟩:=id r1; obtain ⟨As,cs,rfl,-,-,-⟩:=id r2; obtain ⟨Ad,cd,rfl,-,-,-⟩:=id r3; obtain ⟨At,ct,rfl,-,-,-⟩:=id r4; have oR : ∀ b,(Value.slice Ar ev.rf.length cr).ownBlock = some b → b < w.heap.size:=fun b e => hQ.out b (o1' b e)
   have oD : ∀ b,(Value.slice Ad ev.data.length cd).ownBlock = some b → b < w.heap.size:=fun b e => hQ.out b (o3' b e)
   clear r1 r2 r3 r4 o1' o3'; replace hrR:=Hj hrR; replace hrD:=Hj hrD; replace oR:=Hj oR; replace oD:=Hj oD; replace hdk:=Hj hdk; replace htk:=Hj htk; replace hb1:=Hj hb1; replace hb3:=Hj hb3; go_upto_region 5 with (fail)
   have hX:=Blk.new wr 77 #[.int .i64 (ev.kind : Int),.string (str ev.m),.string (str ev.t),.slice Ar ev.rf.length cr,.int .i64 ev.st,.slice As ev.sf.length cs,.slice Ad ev.data.length cd,.slice At ev.tr.length ct]; have hbx:=(Below.refl wr.heap.size wr).alloc (Nat.le_refl _) (.cells #[.int .i64 (ev.kind : Int),.string (str ev.m),.string (str ev.t),.slice Ar ev.rf.length cr,.int .i64 ev.st,.slice As ev.sf.length cs,.slice Ad ev.data.length cd,.slice At ev.tr.length ct] 77); have hzx : (wr.alloc (.cells #[.int .i64 (ev.kind : Int),.string (str ev.m),.string (str ev.t),.slice Ar ev.rf.length cr,.int .i64 ev.st,.slice As ev.sf.length cs,.slice Ad ev.data.length cd,.slice At ev.tr.length ct] 77)).heap.size = wr.heap.size + 1:=alloc_size' _ _
   obtain ⟨G,hGz⟩ : ∃ G,wr.heap.size = G:=⟨_,rfl⟩
   rw [hGz] at hX hzx ⊢
   generalize wr.alloc (.cells #[.int .i64 (ev.kind : Int),.string (str ev.m),.string (str ev.t),.slice Ar ev.rf.length cr,.int .i64 ev.st,.slice As ev.sf.length cs,.slice Ad ev.data.length cd,.slice At ev.tr.length ct] 77) = w2 at *; clear d0 d1 d2 d3 d4 d5 d6 d7; have hKx : Kp (fun _ => False) wr w2:=(Kp.refl _ wr).below hbx
   have hBx:=hB.out.trans (hbx.mono hBw); have hrR2:=Hj (hrR.out.below hbx); have hrD2:=Hj (hrD.out.below hbx); have m0 : w2.cell? ⟨G,0,none⟩ = some (.int .i64 (ev.kind : Int)):=hX.cell 0
   have m1 : w2.cell? ⟨G,1,none⟩ = some (.string (str ev.m)):=hX.cell 1
   have m2 : w2.cell? ⟨G,2,none⟩ = some (.string (str ev.t)):=hX.cell 2
   have m3 : w2.cell? ⟨G,3,none⟩ = some (.slice Ar ev.rf.length cr):=hX.cell 3
   have m6 : w2.cell? ⟨G,6,none⟩ = some (.slice Ad ev.data.length cd):=hX.cell 6
   have hBw2 : w.heap.size ≤ w2.heap.size:=by omega
   have hz12 : wr.heap.size + 1 ≤ w2.heap.size:=by omega
   have hGlt : G < w2.heap.size:=by omega
   clear hzx; replace hGz:=Hj hGz; replace hX:=Hj hX; replace hBx:=Hj hBx; replace hKx:=Hj hKx; replace hbx:=Hj hbx; clear hrR hrD; by_cases k1 : ev.kind = 1
   ·have q1 : ((ev.kind : Int) == 1) = true:=by rw [k1]; rfl
    obtain ⟨ys,hoA,hyA⟩:=hG.out.all
    have hO2:=Hj (own_below hoA hbx.out); have hlo : ∀ b,u3.ownBlock = some b → w.heap.size ≤ b ∧ b < wr.heap.size:=fun b e => World.ownsRow.lt hoA b e
    replace hoA:=Hj hoA; replace hyA:=Hj hyA; replace hlo:=Hj hlo; have htk1:=Hj (htk.out.trans (Cn.gath_head k1)); replace k1:=Hj k1; have hw64:=hb2; go_wp2_with (at_builtin; refine push_rq _ _ rfl rfl rfl hO2.out (by rfl) (by intro u hu; simp only [List.mem_cons,List.mem_nil_iff,or_false] at hu; rcases hu with rfl | rfl | rfl | rfl | rfl <;> rfl) (by omega) (by omega) ?_; intro v7 w7 ho7 hg7 hat7; replace ho7:=Hj ho7; replace hg7:=Hj hg7; replace hat7:=Hj hat7)
    go_roundw
    case rel =>
     have hK2:=((Kp.refl (fun b => u3.ownBlock = some b) w2).alloc (.cells #[.string (str ev.m),.string (str ev.t),.slice Ar ev.rf.length cr,.slice none 0 0,.bool false] 51)).grown hg7.out (fun k e _ => e); have hz7:=hK2.size; refine ⟨k + 1,by go_num,by omega,Hj ?_,Hj (hBx.out.trans (hK2.toBelow hBw2 (fun k e => (hlo.out k e).1)))⟩
     rw [htk1.out]
     refine .inr ⟨o,_,ys,.slice Ar ev.rf.length cr,.slice none 0 0,rfl,ho7.out,((hyA.out.kp hKx.out (fun _ _ h => h)).kp hK2 (fun k hp e => hp.2 e)).mono (fun k hp => ⟨by have:=hp.1; omega,fun e => ?_,fun e => by cases e⟩),hrR2.out.kp (fun k e e2 => by have h1:=oR.out k e; have h2:=(hlo.out k e2).1; omega) hK2,fun k e => ⟨by have h1:=oR.out k e; omega,fun e2 => ?_,fun e => by cases e⟩,own_nil _ _ _ _⟩
     ·rcases hat7.out with h | h
      ·exact hp.2 (h.symm.trans e)
      ·have h3:=Option.some.inj (e.symm.trans h); have:=hp.1; omega
     ·have h1:=oR.out k e
      rcases hat7.out with h | h
      ·have h2:=(hlo.out k (h.symm.trans e2)).1; omega
      ·have h3:=Option.some.inj (e2.symm.trans h); omega
    case measure => simp [intOf]; omega
   ·have q1 : ((ev.kind : Int) == 1) = false:=by simp; omega
    rcases hG.out with ⟨rfl,rfl⟩ | ⟨init,r,ys0,vf,vb,rfl,hO,hI,hF,hFo,hV⟩
    ·have htk0:=Hj (htk.out.trans (Cn.gath_none k1))
     by_cases k2 : ev.kind = 2
     ·have q2 : ((ev.kind : Int) == 2) = true:=by rw [k2]; rfl
      replace k2:=Hj k2; go_wp2; go_roundw
      case rel => exact ⟨k + 1,by go_num,by omega,Hj (by rw [htk0.out]; exact .inl ⟨rfl,rfl⟩),hBx⟩
      case measure => simp [intOf]; omega
     ·have q2 : ((ev.kind : Int) == 2) = false:=by simp; omega
      go_wp2; go_roundw
      case rel => exact ⟨k + 1,by go_num,by omega,Hj (by rw [htk0.out]; exact .inl ⟨rfl,rfl⟩),hBx⟩
      case measure => simp [intOf]; omega
    ·have hO2:=own_below hO hbx.out
     have hI2:=hI.kp hKx.out (fun _ _ h => h); have hF2:=hF.below hbx.out; have hV2:=own_below hV hbx.out; have hil:=hI.len; obtain ⟨g,cap1,hv,hgB,hgl,hcell⟩:=own_at5 hO2 (by omega)
     have hix : ∀ j,j < 5 → (ys0 ++ [.string (str r.m),.string (str r.t),vf,vb,.bool r.ended])[init.length * 5 + j]? = [Value.string (str r.m),.string (str r.t),vf,vb,.bool r.ended][j]?:=fun j hj => by
      rw [List.getElem?_append_right (by rw [hil]; omega),hil,show init.length * 5 + j - init.length * 5 = j by omega]
     obtain ⟨c3,f3⟩:=hcell (init.length * 5 + 3) vb ((hix 3 (by decide)).trans rfl)
     obtain ⟨c4,f4⟩:=hcell (init.length * 5 + 4) (.bool r.ended) ((hix 4 (by decide)).trans rfl)
     have hnv : ∀ b,u3.ownBlock = some b → vb.ownBlock ≠ some b:=fun b e => Own.apart hO hV (by decide) e
     have hlt3 : ∀ b,u3.ownBlock = some b → b < wr.heap.size:=fun b e => (World.ownsRow.lt hO b e).2
     have hlv : ∀ b,vb.ownBlock = some b → w.heap.size ≤ b ∧ b < wr.heap.size:=fun b e => World.ownsRow.lt hV b e
     subst hv; rw [List.length_append,List.length_singleton] at hb2
     have hrb:=hb1.out r (by simp); by_cases k2 : ev.kind = 2
     ·have q2 : ((ev.kind : Int) == 2) = true:=by rw [k2]; rfl
      have htk2:=Hj (htk.out.trans (Cn.gath_data k2)); have hdn : 0 < ev.data.length:=List.length_pos_iff.2 (hdk.out k2)
      obtain ⟨_,_,e',-,-,hbd⟩:=id hrD2.out; cases e'; obtain ⟨bd,od,rfl,-,-⟩:=hbd hdn
      obtain ⟨Ab,cb,rfl,-,-,-⟩:=id (Rd.own hV2)
      have hset : ∀ v',(ys0 ++ [Value.string (str r.m),.string (str r.t),vf,.slice Ab r.body.length cb,.bool r.ended]).set (init.length * 5 + 3) v' = ys0 ++ [.string (str r.m),.string (str r.t),vf,v',.bool r.ended]:=fun v' => by
       rw [List.set_append_right _ _ (by rw [hil]; omega),hil,show init.length * 5 + 3 - init.length * 5 = 3 by omega]; rfl
      have hbb : r.body.length ≤ 4000000:=hrb
      have hdb : ev.data.length ≤ 4000000:=by
       have h:=hb3.out _ (by rw [Cn.gath_data k2]; exact List.mem_append_right _ List.mem_cons_self)
       have h2 : (r.body ++ ev.data).length ≤ 4000000:=h
       rw [List.length_append] at h2; omega
      have hS0 : ∀ w',Own w' w.heap.size 51 5 (.slice (some ⟨g,0,none⟩) (init.length + 1) cap1) (init.length + 1) (ys0 ++ [.string (str r.m),.string (str r.t),vf,.slice Ab r.body.length cb,.bool r.ended]) → w'.cell? ⟨g,init.length * 5 + 3,none⟩ = some (.slice Ab r.body.length cb) ∧ w'.frozen? ⟨g,init.length * 5 + 3,none⟩ = false:=fun w' h => by
       obtain ⟨g',cap',hv',-,-,hc'⟩:=own_at5 h (by omega)
       cases hv'
       exact hc' _ _ ((hix 3 (by decide)).trans rfl)
      replace hO2:=Hj hO2; replace hI2:=Hj hI2; replace hF2:=Hj hF2; replace hV2:=Hj hV2; replace hnv:=Hj hnv; replace hlt3:=Hj hlt3; replace hlv:=Hj hlv; replace hset:=Hj hset; replace hS0:=Hj hS0; replace k2:=Hj k2; clear hO hI hF hV hG hcell hix c4 f4; have y1 : IntKind.i64.wrap ((init.length : Int) + 1 - 1) = (init.length : Int):=by rw [IntWalk.i64_in _ (by omega)]; omega
      have y2 : IntKind.i64.wrap (((init.length + 1 : Nat) : Int) - 1) = (init.length : Int):=by rw [IntWalk.i64_in _ (by omega)]; omega
      have hGg : g < G:=by have h:=hlt3.out g rfl; have:=hGz.out; omega
      have y8 : IntKind.i64.wrap (init.length : Int) = (init.length : Int):=IntWalk.i64_in _ (by omega)
      have y6 : ((init.length + 1 : Nat) : Int) - 1 = (init.length : Int):=by omega
      have y7 : (init.length : Int) + 1 - 1 = (init.length : Int):=by omega
      have y3 : (0 : Int) ≤ (init.length : Int):=by omega
      have y4 : (init.length : Int) < ((init.length + 1 : Nat) : Int):=by omega
      have y5 : (init.length : Int) < (init.length : Int) + 1:=by omega
      go_wp2_with fail
      go_region_law (first | (refine stepD_bytes (B:=w.heap.size) (n:=r.body.length) (m:=ev.data.length) (l:=ev.data) (xs:=u8s r.body) (ad:=⟨bd,od,none⟩) _ _ (by rfl) (by rfl) (by rfl) (by exact hV2.out) (by rfl) rfl (by exact hrD2.out) hdn (by omega) (by exact hBw2) ?_; intro v9 w9 ho9 hg9 hat9; have hO9:=own_kpg (by first | exact hO2.out | exact own_drewN hO2.out 1) hg9 (fun k e e2 => hnv.out k e e2); have hX9:=Blk.grown8 (by first | exact hX.out | exact hX.out.drew) hg9 (fun e => by have:=(hlv.out _ e).2; have:=hGz.out; omega); have hc9:=(hS0.out w9 hO9).1; have hf9:=(hS0.out w9 hO9).2; have hn9 : (r.body ++ ev.data).length = r.body.length + ev.data.length:=List.length_append; obtain ⟨A9,c9,rfl,-,-,-⟩:=id (Rd.own ho9); replace hO9:=Hj hO9; replace ho9:=Hj ho9; replace hg9:=Hj hg9; replace hat9:=Hj hat9; replace hn9:=Hj hn9))
      all_goals
       go_wp2; go_roundw
       case rel =>
        have hKa : Kp (fun b => (Value.slice Ab r.body.length cb).ownBlock = some b) w2 w9:=Kp.grown (by first | exact Kp.refl _ w2 | exact (Kp.refl _ w2).drew) hg9.out (fun k e _ => e)
        have hKb:=(Kp.refl (fun b => b = g) w9).set_ (g:=g) (fun _ => rfl) (init.length * 5 + 3) (.slice A9 (r.body.length + ev.data.length) c9); have hza:=hKa.size; have hzb:=hKb.size; have hat : (Value.slice A9 (r.body.length + ev.data.length) c9).ownBlock = (Value.slice Ab r.body.length cb).ownBlock ∨ (Value.slice A9 (r.body.length + ev.data.length) c9).ownBlock = some w2.heap.size:=hat9.out
        have hnew : ∀ b,b < w2.heap.size → (Value.slice Ab r.body.length cb).ownBlock ≠ some b → (Value.slice A9 (r.body.length + ev.data.length) c9).ownBlock ≠ some b:=fun b hb hne e => by
         rcases hat with h | h
         ·exact hne (h.symm.trans e)
         ·have:=Option.some.inj (e.symm.trans h); omega
        have hlg : w.heap.size ≤ g:=hgB
        refine ⟨k + 1,by go_num,by omega,Hj ?_,Hj ((hBx.out.trans (hKa.toBelow hBw2 (fun k e => (hlv.out k e).1))).trans (hKb.toBelow (by omega) (fun k e => by omega)))⟩
        rw [htk2.out]
        refine .inr ⟨init,_,ys0,vf,.slice A9 (r.body.length + ev.data.length) c9,rfl,by have h:=own_set5 hO9.out (init.length * 5 + 3) (.slice A9 (r.body.length + ev.data.length) c9); rw [hset.out] at h; exact h,((hI2.out.kp hKa (fun b hp e => hp.2.2 e)).kp hKb (fun b hp (e : b = g) => hp.2.1 (by rw [e]; rfl))).mono (fun b hp => ⟨by have:=hp.1; omega,hp.2.1,hnew b (by have:=hp.1; omega) hp.2.2⟩),(hF2.out.kp (hFo.off (fun b hp e => hp.2.2 e)) hKa).kp (hFo.off (fun b hp (e : b = g) => hp.2.1 (by rw [e]; rfl))) hKb,hFo.mono (fun b hp => ⟨by have:=hp.1; omega,hp.2.1,hnew b (by have:=hp.1; omega) hp.2.2⟩),?_⟩
        have ho:=ho9.out.kp (F:=fun b => b = g) (fun b e (h : b = g) => hnew g (by omega) (hnv.out g rfl) (by rw [← h]; exact e)) hKb
        rw [← hn9.out,show u8s r.body ++ u8s ev.data = u8s (r.body ++ ev.data) by unfold u8s; rw [List.map_append]] at ho
        rw [hn9.out] at ho
        show Own _ _ _ _ _ (r.body ++ ev.data).length _
        rw [hn9.out]; exact ho
       case measure => simp [intOf]; omega
     ·have q2 : ((ev.kind : Int) == 2) = false:=by simp; omega
      have htk2:=Hj (htk.out.trans (Cn.gath_end k1 k2)); have hset : (ys0 ++ [Value.string (str r.m),.string (str r.t),vf,vb,.bool r.ended]).set (init.length * 5 + 4) (.bool true) = ys0 ++ [.string (str r.m),.string (str r.t),vf,vb,.bool true]:=by
       rw [List.set_append_right _ _ (by rw [hil]; omega),hil,show init.length * 5 + 4 - init.length * 5 = 4 by omega]; rfl
      replace hO2:=Hj hO2; replace hI2:=Hj hI2; replace hF2:=Hj hF2; replace hV2:=Hj hV2; replace hnv:=Hj hnv; replace hlt3:=Hj hlt3; replace hlv:=Hj hlv; replace hset:=Hj hset; clear hO hI hF hV hG hcell hix c3 f3; go_wp2; go_roundw
      case rel =>
       have hK7:=(Kp.refl (fun b => b = g) w2).set_ (g:=g) (fun _ => rfl) (init.length * 5 + 4) (.bool true); refine ⟨k + 1,by go_num,by omega,Hj ?_,Hj (hBx.out.trans (hK7.toBelow hBw2 (fun k e => by omega)))⟩
       rw [htk2.out]
       refine .inr ⟨init,_,ys0,vf,vb,rfl,by have h:=own_set5 hO2.out (init.length * 5 + 4) (.bool true); rw [hset.out] at h; exact h,(hI2.out.kp hK7 (fun b hp (e : b = g) => hp.2.1 (by rw [e]; rfl))).mono (fun b hp => ⟨by have:=hp.1; have:=hK7.size; omega,hp.2.1,hp.2.2⟩),hF2.out.kp (hFo.off (fun b hp (e : b = g) => hp.2.1 (by rw [e]; rfl))) hK7,hFo.mono (fun b hp => ⟨by have:=hp.1; have:=hK7.size; omega,hp.2.1,hp.2.2⟩),hV2.out.kp (fun b e (h : b = g) => hnv.out g rfl (by rw [← h]; exact e)) hK7⟩
      case measure => simp [intOf]; omega
  ·obtain rfl : k = l.length:=by omega
   rw [List.take_length] at hG
   go_wp2; go_ret; exact ⟨_,rfl,hG.out,hB.out⟩
end Go.Proofs.YtjffffpfejmoiaaGreatDoor
