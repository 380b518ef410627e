import Derived.Test.YtibcbaghgpemfaaGreatDoorNStartP
import Derived.Test.YtibcbaghgpemfaaGreatDoorDBody
import Derived.Test.YtibcbaghgpemfaaGreatDoorHLast
namespace Go.Proofs.YtibcbaghgpemfaaGreatDoor
open Go.RowKit Syn Hd Fr Ck
namespace Cn
theorem frame_kinds {K : Nat} (hK : K = 1 ∨ K = 4) (L : List (List UInt8 × List UInt8)) (h : (frame K L).2 = 0) : ((frame K L).1.1 = 1 ∨ (frame K L).1.1 = 2 ∨ (frame K L).1.1 = 3 ∨ (frame K L).1.1 = 4) ∧ ((frame K L).1.1 = 1 → (frame K L).1.2 = 0):=by
 rcases frame_shape L with h1 | ⟨f,h1,h2⟩
 ·rw [h1 K]
  exact ⟨by rcases hK with e | e <;> simp [e],fun _ => rfl⟩
 ·rw [h1 K] at h ⊢
  rcases h2 with ⟨h3,-⟩ | h3 | ⟨n,-,h3⟩
  ·exact absurd h h3
  ·rw [h3]; exact ⟨.inr (.inr (.inl rfl)),fun e => by cases e⟩
  ·rw [h3]; exact ⟨.inr (.inl rfl),fun e => by cases e⟩
theorem hFr_kinds {c : C} (h : (hFr c).2 = 0) : ((hFr c).1.1 = 1 ∨ (hFr c).1.1 = 2 ∨ (hFr c).1.1 = 3 ∨ (hFr c).1.1 = 4) ∧ ((hFr c).1.1 = 1 → (hFr c).1.2 = 0):=by
 unfold hFr at h ⊢
 split
 ·rename_i hr
  rw [if_pos hr] at h
  unfold respF at h ⊢
  split
  ·rename_i h2; rw [if_pos h2] at h; exact absurd h h2
  ·rename_i h2
   rw [if_neg h2] at h
   split
   ·exact ⟨.inl rfl,fun _ => rfl⟩
   ·exact frame_kinds (.inr rfl) _ (Decidable.not_not.1 h2)
 ·rename_i hr
  rw [if_neg hr] at h
  exact frame_kinds (.inl rfl) _ h
end Cn
end Go.Proofs.YtibcbaghgpemfaaGreatDoor
namespace Go.Proofs.YtibcbaghgpemfaaGreatDoor
open Go.RowKit Syn Hd Fr Ck
namespace Cn
structure DLive (c0 : C) (all : List UInt8) (rs : Bool) (ms : List (List UInt8)) (at_ heads used : Nat) (l : List Ev) (c : C) : Prop where
 doc : Doc c0 c l
 resp : c.resp = rs
 buf : c.buf = all.drop at_
 many : c.many = heads
 meth : rs = true → c.meth = ms.drop used
 usm : rs = true → used ≤ ms.length
structure DI (c0 : C) (all : List UInt8) (cl rs : Bool) (ms : List (List UInt8)) (at_ heads used : Nat) (l : List Ev) (op pt : Bool) (code : Int) : Prop where
 le : at_ ≤ all.length
 hd : heads ≤ 64
 us : used ≤ heads
 ln : l.length ≤ 3 * heads
 st : (op = false ∧ pt = false ∧ code = 0 ∧ ∃ c,DLive c0 all rs ms at_ heads used l c) ∨ ((code ≠ 0 ∨ op = true ∨ at_ = all.length) ∧ docL c0 cl = l ∧ docE c0 cl = if code = 0 ∧ pt = true ∧ cl = true then 21 else code)
section
variable {c0 c : C} {all : List UInt8} {cl rs : Bool} {ms : List (List UInt8)} {at_ heads used : Nat} {l : List Ev}
theorem DLive.ne (h : DLive c0 all rs ms at_ heads used l c) (ha : at_ < all.length) : ¬ c.buf = []:=fun e => by
 have h2:=h.buf.symm.trans e; have h3:=congrArg List.length h2; rw [List.length_drop] at h3
 change all.length - at_ = 0 at h3
 omega
theorem DLive.none_ (h : DLive c0 all rs ms at_ heads used l c) : Cn.none_ c ↔ rs = true ∧ used = ms.length:=by
 unfold Cn.none_
 rw [h.resp]
 refine and_congr_right fun hr => ?_
 rw [h.meth hr]
 have:=h.usm hr
 constructor
 ·intro e
  have h3:=congrArg List.length e; rw [List.length_drop] at h3
  change ms.length - used = 0 at h3
  omega
 ·intro e; exact List.drop_of_length_le (by omega)
theorem DLive.bad (h : DLive c0 all rs ms at_ heads used l c) (ha : at_ < all.length) (h64 : heads ≤ 64) (hu : used ≤ heads) (hl : l.length ≤ 3 * heads) (hw : ¬ wait c) (hs : sE c ≠ 0) : DI c0 all cl rs ms at_ heads used l false false (sE c):=by
 obtain ⟨h1,h2⟩:=h.doc.bad (h.ne ha) hw hs cl
 exact ⟨Nat.le_of_lt ha,h64,hu,hl,.inr ⟨.inl hs,h1,by rw [if_neg (fun x => hs x.1)]; exact h2⟩⟩
theorem DLive.wt (h : DLive c0 all rs ms at_ heads used l c) (ha : at_ < all.length) (h64 : heads ≤ 64) (hu : used ≤ heads) (hl : l.length ≤ 3 * heads) (hw : wait c) : DI c0 all cl rs ms all.length heads used l false true 0:=by
 obtain ⟨h1,h2⟩:=h.doc.wait (h.ne ha) hw cl
 refine ⟨Nat.le_refl _,h64,hu,hl,.inr ⟨.inr (.inr rfl),h1,?_⟩⟩
 rw [h2]
 cases cl <;> rfl
theorem DLive.inf_ (h : DLive c0 all rs ms at_ heads used l c) (ha : at_ < all.length) (hu : used ≤ heads) (hl : l.length ≤ 3 * heads) (hw : ¬ wait c) (hs : sE c = 0) (hi : inf c = true) {n : Nat} (hn : Hd.endF c.buf = (n : Int)) :
  DI c0 all cl rs ms (at_ + n) (heads + 1) used (l ++ [hEv c]) false false 0:=by
 have h1:=h.doc.inf (h.ne ha) hw hs hi; obtain ⟨m,e,h4,hm⟩:=hd_len (sE_hE hs).1
 have hmn : n = m:=by have:=hn.symm.trans e; omega
 rw [h.buf,List.length_drop] at hm
 have h64:=(sE_hE hs).2.2.1; rw [h.many] at h64
 refine ⟨by omega,h64,by omega,by rw [List.length_append,List.length_singleton]; omega,.inl ⟨rfl,rfl,rfl,sC c,h1,h.resp,?_,?_,h.meth,h.usm⟩⟩
 ·show dr c.buf = _
  rw [dr_drop hn,h.buf,List.drop_drop]
 ·show c.many + 1 = _; rw [h.many]
theorem DLive.bod (h : DLive c0 all rs ms at_ heads used l c) (ha : at_ < all.length) (hu : used ≤ heads) (hl : l.length ≤ 3 * heads) (hw : ¬ wait c) (hs : sE c = 0) (hi : inf c = false) {at' : Nat} (h1 : at' ≤ all.length) (h2 : all.drop at' = pBuf (sC c)) :
  DI c0 all cl rs ms at' (heads + 1) (used + (if dEnd (sC c) cl = true then 1 else 0)) ((l ++ [hEv c]) ++ evs (pData (sC c)) (dEnd (sC c) cl) (pTr (sC c))) (decide ((sC c).kind = 4)) (!dEnd (sC c) cl && !decide ((sC c).kind = 4)) (pErr (sC c)):=by
 have h64:=(sE_hE hs).2.2.1; rw [h.many] at h64
 have hlen : (evs (pData (sC c)) (dEnd (sC c) cl) (pTr (sC c))).length ≤ 2:=by
  unfold evs
  rw [List.length_append]
  split <;> split <;> simp
 refine ⟨h1,h64,by split <;> omega,by rw [List.length_append,List.length_append,List.length_singleton]; omega,?_⟩
 cases hd : pDone (sC c) with
 | true =>
  have hk : (sC c).kind ≠ 4:=fun e => by unfold pDone at hd; rw [if_pos e] at hd; cases hd
  have he : pErr (sC c) = 0:=by
   unfold pErr
   split
   ·rename_i h3
    unfold pDone at hd
    rw [if_neg hk,if_pos h3] at hd
    rw [(of_decide_eq_true hd).1]; rfl
   ·rfl
  have hde : dEnd (sC c) cl = true:=by unfold dEnd; rw [hd]; rfl
  have hD:=h.doc.done (h.ne ha) hw hs hi hd he; rw [hde,decide_eq_false hk,he]
  refine .inl ⟨rfl,rfl,rfl,pC (sC c),?_,h.resp,h2.symm,?_,?_,?_⟩
  ·have : pEv (sC c) = evs (pData (sC c)) true (pTr (sC c)):=by unfold pEv; rw [hd]
   rw [← this]; exact hD
  ·show c.many + 1 = _; rw [h.many]
  ·intro hr
   show (if (pDone (sC c) && c.resp) = true then c.meth.tail else c.meth) = _
   rw [hd,h.resp,hr,if_pos rfl,h.meth hr,List.tail_drop]; rfl
  ·intro hr
   have hno:=(sE_hE hs).2.1; have:=h.usm hr
   have : ¬ used = ms.length:=fun e => hno (h.none_.2 ⟨hr,e⟩)
   rw [if_pos rfl]; omega
 | false =>
  obtain ⟨p1,p2,p3⟩:=h.doc.part (h.ne ha) hw hs hi hd cl
  have hde : dEnd (sC c) cl = (decide ((sC c).kind = 4) && cl):=by unfold dEnd; rw [hd]; rfl
  have hev : pEv (sC c) = evs (pData (sC c)) false (pTr (sC c)):=by unfold pEv; rw [hd]
  by_cases hk : (sC c).kind = 4
  ·have he : pErr (sC c) = 0:=by unfold pErr; rw [if_neg (by omega)]
   have ht : pTr (sC c) = []:=by unfold pTr; rw [if_neg (by omega)]
   obtain ⟨q1,q2⟩:=p3 he hk
   rw [hde,decide_eq_true hk,he,ht,Bool.true_and]
   refine .inr ⟨.inr (.inl rfl),q1,?_⟩
   rw [q2,if_neg (by rintro ⟨-,x,-⟩; rw [Bool.not_true,Bool.and_false] at x; cases x)]
  ·rw [hde,decide_eq_false hk,Bool.false_and]
   by_cases he : pErr (sC c) = 0
   ·obtain ⟨q1,q2⟩:=p2 he hk
    rw [hev] at q1
    rw [he]
    refine .inr ⟨.inr (.inr ?_),q1,?_⟩
    ·have hb : pBuf (sC c) = []:=by
      unfold pBuf
      rw [if_neg hk]
      unfold pDone at hd
      rw [if_neg hk] at hd
      split
      ·rename_i h3
       rw [if_pos h3] at hd
       have hd2:=of_decide_eq_false hd; have hbad : (wr (sC c).dec (sC c).buf).1.bad = 0:=by
        unfold pErr at he
        rw [if_pos h3] at he
        omega
       rw [wr_all _ _ hbad (fun e => hd2 ⟨hbad,e⟩)]
       exact List.drop_of_length_le (Nat.le_refl _)
      ·rename_i h3
       rw [if_neg h3] at hd
       have hd2:=of_decide_eq_false hd; exact List.drop_of_length_le (by omega)
     rw [hb] at h2
     have h3:=congrArg List.length h2; rw [List.length_drop] at h3
     change all.length - at' = 0 at h3
     omega
    ·rw [q2]
     cases cl <;> rfl
   ·obtain ⟨q1,q2⟩:=p1 he
    rw [hev] at q1
    exact .inr ⟨.inl he,q1,by rw [if_neg (fun x => he x.1)]; exact q2⟩
theorem DI.fin {op pt : Bool} {code : Int} (h : DI c0 all cl rs ms at_ heads used l op pt code) (hst : code ≠ 0 ∨ op = true ∨ at_ = all.length) : docL c0 cl = l ∧ docE c0 cl = if code = 0 ∧ pt = true ∧ cl = true then 21 else code:=by
 rcases h.st with ⟨h1,h2,h3,c,hc⟩ | ⟨-,h⟩
 ·have hn : c.buf = []:=by
   rw [hc.buf]
   refine List.drop_of_length_le ?_
   rcases hst with h | h | h
   ·exact absurd h3 h
   ·rw [h1] at h; cases h
   ·omega
  obtain ⟨q1,q2⟩:=hc.doc.end_ hn cl
  exact ⟨q1,by rw [q2,h2,if_neg (fun x => by cases x.2.1),h3]⟩
 ·exact h
theorem DI.live {op pt : Bool} {code : Int} (h : DI c0 all cl rs ms at_ heads used l op pt code) (h1 : code = 0) (h2 : op = false) (h3 : at_ < all.length) : pt = false ∧ ∃ c,DLive c0 all rs ms at_ heads used l c:=by
 rcases h.st with ⟨-,h2,-,c,hc⟩ | ⟨h | h | h,-⟩
 ·exact ⟨h2,c,hc⟩
 ·exact absurd h1 h
 ·rw [h2] at h; cases h
 ·omega
theorem DI.start (r : Bool) (ms : List (List UInt8)) (all : List UInt8) (cl : Bool) : DI (app (new r ms) all) all cl r ms 0 0 0 [] false false 0 :=
 ⟨Nat.zero_le _,Nat.zero_le _,Nat.zero_le _,Nat.zero_le _,.inl ⟨rfl,rfl,rfl,app (new r ms) all,Doc.nil rfl rfl rfl,rfl,rfl,rfl,fun _ => rfl,fun _ => Nat.zero_le _⟩⟩
end
theorem rr_hundred {b : List UInt8} (h : rrE b = 0) : 100 ≤ rrS b ∧ rrS b ≤ 599:=by
 obtain ⟨h1,-⟩:=rr_lines h
 unfold rrE at h
 rw [if_pos h1] at h
 unfold rrX at h
 split at h
 ·split at h
  ·cases h
  ·rename_i h2
   have h3 : stB (stR ((lnL b).headD [])) = true:=by simpa using h2
   unfold stB at h3
   simp only [Bool.and_eq_true,decide_eq_true_eq] at h3
   unfold rrS stV
   omega
 ·cases h
end Cn
end Go.Proofs.YtibcbaghgpemfaaGreatDoor
namespace Go.Proofs.YtibcbaghgpemfaaGreatDoor
open Go.RowKit Syn Hd Fr Ck
def DmR (c0 : Cn.C) (all : List UInt8) (cl rs : Bool) (ms : List (List UInt8)) (heads : Nat) (B : Nat) (vl : Value) (w : World) (e : Ending) (w' : World) : Prop :=
 ∃ (at' heads' used' : Nat) (l' : List Cn.Ev) (op pt : Bool) (code : Int) (A' : Option Addr) (c' : Nat) (ys' : List Value),e = .returned (.agg #[.int .i64 (at' : Int),.int .i64 (heads' : Int),.int .i64 (used' : Int),.slice A' l'.length c',.bool op,.bool pt,.int .i64 code]) ∧
  Cn.DI c0 all cl rs ms at' heads' used' l' op pt code ∧ Own w' B 144 8 (.slice A' l'.length c') l'.length ys' ∧ Cn.DvsC w' (fun b => B ≤ b ∧ b < w'.heap.size ∧ (Value.slice A' l'.length c').ownBlock ≠ some b) l' ys' ∧ Kp (fun b => vl.ownBlock = some b) w w' ∧ (heads < heads' ∨ code ≠ 0 ∨ at' = all.length)
section
variable {c0 : Cn.C} {all : List UInt8} {cl rs : Bool} {ms : List (List UInt8)} {B : Nat} {w w' : World}
theorem DmR.same {l : List Cn.Ev} {ys : List Value} {Al : Option Addr} {cl2 : Nat} (hO : Own w B 144 8 (.slice Al l.length cl2) l.length ys) (hD : Cn.DvsC w (fun b => B ≤ b ∧ b < w.heap.size ∧ (Value.slice Al l.length cl2).ownBlock ≠ some b) l ys) (hb : Below w.heap.size w w')
  {at' heads' used' : Nat} {op pt : Bool} {code : Int} (hI : Cn.DI c0 all cl rs ms at' heads' used' l op pt code) {heads : Nat} (hp : code ≠ 0 ∨ at' = all.length) :
  DmR c0 all cl rs ms heads B (.slice Al l.length cl2) w (.returned (.agg #[.int .i64 (at' : Int),.int .i64 (heads' : Int),.int .i64 (used' : Int),.slice Al l.length cl2,.bool op,.bool pt,.int .i64 code])) w' :=
 ⟨at',heads',used',l,op,pt,code,Al,cl2,ys,rfl,hI,own_below hO hb,(hD.kp ((Kp.refl (fun _ => False) w).below hb) (fun _ _ h => h)).mono (fun _ hp => ⟨hp.1,Nat.lt_of_lt_of_le hp.2.1 hb.size,hp.2.2⟩),(Kp.refl _ w).below hb,.inr hp⟩
theorem below_seven {a : World} {n g : Nat} (h : Below n a w) (hg : n ≤ g) (v0 v1 v2 v3 v4 v5 v6 : Value) :
  Below n a (((((((w.setCell ⟨g,0,none⟩ v0).setCell ⟨g,1,none⟩ v1).setCell ⟨g,2,none⟩ v2).setCell ⟨g,3,none⟩ v3).setCell ⟨g,4,none⟩ v4).setCell ⟨g,5,none⟩ v5).setCell ⟨g,6,none⟩ v6) :=
 ((((((h.setCell (p:=⟨g,0,none⟩) hg v0).setCell (p:=⟨g,1,none⟩) hg v1).setCell (p:=⟨g,2,none⟩) hg v2).setCell (p:=⟨g,3,none⟩) hg v3).setCell (p:=⟨g,4,none⟩) hg v4).setCell (p:=⟨g,5,none⟩) hg v5).setCell (p:=⟨g,6,none⟩) hg v6
theorem Kp.seven {F : Nat → Prop} {a : World} {g : Nat} (h : Kp F a w) (hg : g < a.heap.size → F g) (v0 v1 v2 v3 v4 v5 v6 : Value) :
  Kp F a (((((((w.setCell ⟨g,0,none⟩ v0).setCell ⟨g,1,none⟩ v1).setCell ⟨g,2,none⟩ v2).setCell ⟨g,3,none⟩ v3).setCell ⟨g,4,none⟩ v4).setCell ⟨g,5,none⟩ v5).setCell ⟨g,6,none⟩ v6) :=
 ((((((h.set_ (g:=g) hg 0 v0).set_ (g:=g) hg 1 v1).set_ (g:=g) hg 2 v2).set_ (g:=g) hg 3 v3).set_ (g:=g) hg 4 v4).set_ (g:=g) hg 5 v5).set_ (g:=g) hg 6 v6
theorem Blk.seven {g : Nat} {t : TypeId} {a0 a1 a2 a3 a4 a5 a6 : Value} (h : Blk w g t #[a0,a1,a2,a3,a4,a5,a6]) (v0 v1 v2 v3 v4 v5 v6 : Value) :
  Blk (((((((w.setCell ⟨g,0,none⟩ v0).setCell ⟨g,1,none⟩ v1).setCell ⟨g,2,none⟩ v2).setCell ⟨g,3,none⟩ v3).setCell ⟨g,4,none⟩ v4).setCell ⟨g,5,none⟩ v5).setCell ⟨g,6,none⟩ v6) g t #[v0,v1,v2,v3,v4,v5,v6]:=by
 have h0 : Blk (w.setCell ⟨g,0,none⟩ v0) g t #[v0,a1,a2,a3,a4,a5,a6]:=h.set_ 0 v0
 have h1 : Blk _ g t #[v0,v1,a2,a3,a4,a5,a6]:=h0.set_ 1 v1
 have h2 : Blk _ g t #[v0,v1,v2,a3,a4,a5,a6]:=h1.set_ 2 v2
 have h3 : Blk _ g t #[v0,v1,v2,v3,a4,a5,a6]:=h2.set_ 3 v3
 have h4 : Blk _ g t #[v0,v1,v2,v3,v4,a5,a6]:=h3.set_ 4 v4
 have h5 : Blk _ g t #[v0,v1,v2,v3,v4,v5,a6]:=h4.set_ 5 v5
 exact h5.set_ 6 v6
end
def DPr (c : Cn.C) (g : Nat) (w3 : World) (v7 v8 : Value) (wx : World) : Prop :=
 ∃ (N : Int) (e0 : Cn.Ev) (Ar As : Option Addr) (cr cs : Nat),v7 = .int .i64 N ∧ v8 = .int .i64 (Cn.hE c) ∧ Blk wx g 144 #[.int .i64 1,.string (str e0.m),.string (str e0.t),.slice Ar e0.rf.length cr,.int .i64 e0.st,.slice As e0.sf.length cs,.string ⟨#[]⟩,.slice none 0 0] ∧
  Rd wx 2 (.slice Ar e0.rf.length cr) e0.rf.length (prs e0.rf) ∧ On (fun b => w3.heap.size ≤ b ∧ b < wx.heap.size) (.slice Ar e0.rf.length cr) ∧ Rd wx 2 (.slice As e0.sf.length cs) e0.sf.length (prs e0.sf) ∧ On (fun b => w3.heap.size ≤ b ∧ b < wx.heap.size) (.slice As e0.sf.length cs) ∧
  Few e0.rf ∧ Few e0.sf ∧ Kp (fun b => b = g) w3 wx ∧ e0.kind = 1 ∧ e0.data = [] ∧ e0.tr = [] ∧ (Cn.hE c = 0 → Cn.hEv c = e0 ∧ Hd.endF c.buf = N ∧ Cn.hFr c = if c.resp = true then respF (c.meth.headD []) e0.st (frame 4 e0.sf) else frame 1 e0.rf)
theorem few_nil : Few ([] : List (List UInt8 × List UInt8)):=⟨Nat.zero_le _,fun p hp => by cases hp⟩
theorem few_rr0 (b : List UInt8) : Few (rrL0 b):=by
 unfold rrL0
 split
 ·exact Cn.few_rr (by assumption)
 ·exact few_nil
theorem few_rq0 (b : List UInt8) : Few (rqL0 b):=by
 unfold rqL0
 split
 ·exact Cn.few_rq (by assumption)
 ·exact few_nil
theorem kp_off {F : Nat → Prop} {w w' : World} {A : Option Addr} {n c : Nat} {xs : List Value} {lo hi : Nat} (hR : Rd w 2 (.slice A n c) n xs) (hO : On (fun b => lo ≤ b ∧ b < hi) (.slice A n c)) (hk : Kp F w w') (hF : ∀ b,lo ≤ b → ¬ F b) (hs : hi ≤ w'.heap.size) :
  Rd w' 2 (.slice A n c) n xs ∧ On (fun b => lo ≤ b ∧ b < w'.heap.size) (.slice A n c) :=
 ⟨hR.kp (hO.off fun b h => hF b h.1) hk,hO.mono fun _ h => ⟨h.1,Nat.lt_of_lt_of_le h.2 hs⟩⟩
theorem DPr.resp {c : Cn.C} {g : Nat} {w3 w4 wx : World} {A4 : Option Addr} {c4 : Nat} (hr : c.resp = true) (hg : g < w3.heap.size) (hb : Below w3.heap.size w3 w4) (hR : Rd w4 2 (.slice A4 (rrL0 c.buf).length c4) (rrL0 c.buf).length (prs (rrL0 c.buf))) (hO : On (fun b => w3.heap.size ≤ b ∧ b < w4.heap.size) (.slice A4 (rrL0 c.buf).length c4))
  (hk : Kp (fun b => b = g) w4 wx) (hE : Blk wx g 144 #[.int .i64 1,.string ⟨#[]⟩,.string ⟨#[]⟩,.slice none 0 0,.int .i64 (rrS0 c.buf),.slice A4 (rrL0 c.buf).length c4,.string ⟨#[]⟩,.slice none 0 0]) :
  DPr c g w3 (.int .i64 (rrN0 c.buf)) (.int .i64 (rrE c.buf)) wx:=by
 have he : Cn.hE c = rrE c.buf:=if_pos hr
 obtain ⟨h1,h2⟩:=kp_off hR hO hk (fun b h e => by omega) hk.size
 refine ⟨rrN0 c.buf,⟨1,[],[],[],rrS0 c.buf,rrL0 c.buf,[],[]⟩,none,A4,0,c4,rfl,by rw [he],hE,Rd.nil _ 2,On.nil _,h1,h2,few_nil,few_rr0 _,((Kp.refl (fun b => b = g) w3).below hb).trans hk,rfl,rfl,rfl,fun h => ?_⟩
 rw [he] at h
 unfold rrN0 rrS0 rrL0
 rw [if_pos h,if_pos h,if_pos h]
 exact ⟨if_pos hr,rfl,by unfold Cn.hFr; rw [if_pos hr,if_pos hr]⟩
theorem DPr.req {c : Cn.C} {g : Nat} {w3 w4 wx : World} {A4 : Option Addr} {c4 : Nat} (hr : c.resp = false) (hg : g < w3.heap.size) (hb : Below w3.heap.size w3 w4) (hR : Rd w4 2 (.slice A4 (rqL0 c.buf).length c4) (rqL0 c.buf).length (prs (rqL0 c.buf))) (hO : On (fun b => w3.heap.size ≤ b ∧ b < w4.heap.size) (.slice A4 (rqL0 c.buf).length c4))
  (hk : Kp (fun b => b = g) w4 wx) (hE : Blk wx g 144 #[.int .i64 1,.string (str (rqM0 c.buf)),.string (str (rqT0 c.buf)),.slice A4 (rqL0 c.buf).length c4,.int .i64 0,.slice none 0 0,.string ⟨#[]⟩,.slice none 0 0]) :
  DPr c g w3 (.int .i64 (rqN0 c.buf)) (.int .i64 (rqE c.buf)) wx:=by
 have hn : ¬ c.resp = true:=by rw [hr]; decide
 have he : Cn.hE c = rqE c.buf:=if_neg hn
 obtain ⟨h1,h2⟩:=kp_off hR hO hk (fun b h e => by omega) hk.size
 refine ⟨rqN0 c.buf,⟨1,rqM0 c.buf,rqT0 c.buf,rqL0 c.buf,0,[],[],[]⟩,A4,none,c4,0,rfl,by rw [he],hE,h1,h2,Rd.nil _ 2,On.nil _,few_rq0 _,few_nil,((Kp.refl (fun b => b = g) w3).below hb).trans hk,rfl,rfl,rfl,fun h => ?_⟩
 rw [he] at h
 unfold rqN0 rqM0 rqT0 rqL0
 rw [if_pos h,if_pos h,if_pos h,if_pos h]
 exact ⟨if_neg hn,rfl,by unfold Cn.hFr; rw [if_neg hn,if_neg hn]⟩
def DFr (c : Cn.C) (gf : Nat) (w6 : World) (v10 : Value) (wx : World) : Prop :=
 ∃ (z K Ln : Int),v10 = .int .i64 z ∧ Blk wx gf 189 #[.int .i64 K,.int .i64 Ln] ∧ Kp (fun b => b = gf) w6 wx ∧ (Cn.hE c = 0 → K = ((Cn.hFr c).1.1 : Int) ∧ Ln = ((Cn.hFr c).1.2 : Int) ∧ z = (Cn.hFr c).2)
set_option maxRecDepth 100000 in
set_option maxHeartbeats 16000000 in
theorem dmsg_any {c0 c : Cn.C} (all : List UInt8) (cl rs : Bool) (ms : List (List UInt8)) (Am : Option Addr) (cm : Nat) (at_ heads used : Nat) {l : List Cn.Ev} (hL : Cn.DLive c0 all rs ms at_ heads used l c) (ha : at_ < all.length) (h64 : heads ≤ 64) (hu : used ≤ heads) (hl : l.length ≤ 3 * heads) (hall : all.length ≤ 1000000)
  {B : Nat} {ys : List Value} (Al : Option Addr) (cl2 : Nat) (w : World) (hm : Rd w 1 (.slice Am ms.length cm) ms.length (strs ms)) (hO : Own w B 144 8 (.slice Al l.length cl2) l.length ys) (hB : B ≤ w.heap.size) (hD : Cn.DvsC w (fun b => B ≤ b ∧ b < w.heap.size ∧ (Value.slice Al l.length cl2).ownBlock ≠ some b) l ys) :
  Calls Tryz.prog 114 #[.agg #[.string (str all),.bool cl,.bool rs,.slice Am ms.length cm],.agg #[.int .i64 (at_ : Int),.int .i64 (heads : Int),.int .i64 (used : Int),.slice Al l.length cl2,.bool false,.bool false,.int .i64 0]] w (DmR c0 all cl rs ms heads B (.slice Al l.length cl2) w):=by
 replace hD:=Hj hD; replace hO:=Hj hO; replace hm:=Hj hm; have hres:=hL.resp; have hnone:=hL.none_; have hbu:=hL.buf; have hmt:=hL.meth; have hum:=hL.usm; replace hL:=Hj hL; have hsz : (str all).size = all.length:=str_size all
 have hrest : (str all).extract at_ all.length = str c.buf:=by
  rw [extract_str,bs_str,List.take_of_length_le (Nat.le_refl _),hbu]
 have hbl : c.buf.length ≤ 1000000:=by rw [hbu,List.length_drop]; omega
 have hRr:=fun w => rreadresp_any (str c.buf) w (by rw [str_size]; exact hbl)
 have hRq:=fun w => rreadreq_any (str c.buf) w (by rw [str_size]; exact hbl)
 rw [bs_str] at hRr hRq
 replace hRr:=Hj hRr; replace hRq:=Hj hRq; replace hrest:=Hj hrest; clear hbu hbl; go_enter Tryz.func114,Tryz.ntmps114
 go_upto_region 2 with (fail)
 have hX3:=((Blk.new w 84 #[.string (str all),.bool cl,.bool rs,.slice Am ms.length cm]).alloc (.cells #[.int .i64 (at_ : Int),.int .i64 (heads : Int),.int .i64 (used : Int),.slice Al l.length cl2,.bool false,.bool false,.int .i64 0] 175)).alloc (.cells #[.int .i64 0,.int .i64 0,.int .i64 0,.slice none 0 0,.bool false,.bool false,.int .i64 0] 175); have hX4:=(Blk.new (w.alloc (.cells #[.string (str all),.bool cl,.bool rs,.slice Am ms.length cm] 84)) 175 #[.int .i64 (at_ : Int),.int .i64 (heads : Int),.int .i64 (used : Int),.slice Al l.length cl2,.bool false,.bool false,.int .i64 0]).alloc (.cells #[.int .i64 0,.int .i64 0,.int .i64 0,.slice none 0 0,.bool false,.bool false,.int .i64 0] 175); have hX6:=Blk.new ((w.alloc (.cells #[.string (str all),.bool cl,.bool rs,.slice Am ms.length cm] 84)).alloc (.cells #[.int .i64 (at_ : Int),.int .i64 (heads : Int),.int .i64 (used : Int),.slice Al l.length cl2,.bool false,.bool false,.int .i64 0] 175)) 175 #[.int .i64 0,.int .i64 0,.int .i64 0,.slice none 0 0,.bool false,.bool false,.int .i64 0]; have hB0:=(((Below.refl w.heap.size w).alloc (Nat.le_refl _) (.cells #[.string (str all),.bool cl,.bool rs,.slice Am ms.length cm] 84)).alloc (by simp) (.cells #[.int .i64 (at_ : Int),.int .i64 (heads : Int),.int .i64 (used : Int),.slice Al l.length cl2,.bool false,.bool false,.int .i64 0] 175)).alloc (by simp; omega) (.cells #[.int .i64 0,.int .i64 0,.int .i64 0,.slice none 0 0,.bool false,.bool false,.int .i64 0] 175)
 simp only [alloc_size'] at hX3 hX4 hX6
 have hz2 : (((w.alloc (.cells #[.string (str all),.bool cl,.bool rs,.slice Am ms.length cm] 84)).alloc (.cells #[.int .i64 (at_ : Int),.int .i64 (heads : Int),.int .i64 (used : Int),.slice Al l.length cl2,.bool false,.bool false,.int .i64 0] 175)).alloc (.cells #[.int .i64 0,.int .i64 0,.int .i64 0,.slice none 0 0,.bool false,.bool false,.int .i64 0] 175)).heap.size = w.heap.size + 1 + 1 + 1:=by simp only [alloc_size']
 generalize ((w.alloc (.cells #[.string (str all),.bool cl,.bool rs,.slice Am ms.length cm] 84)).alloc (.cells #[.int .i64 (at_ : Int),.int .i64 (heads : Int),.int .i64 (used : Int),.slice Al l.length cl2,.bool false,.bool false,.int .i64 0] 175)).alloc (.cells #[.int .i64 0,.int .i64 0,.int .i64 0,.slice none 0 0,.bool false,.bool false,.int .i64 0] 175) = w2 at *; obtain ⟨G,hG⟩ : ∃ G,w.heap.size = G:=⟨_,rfl⟩
 have hGG:=hB0.size; have hG2:=hX6.lt; rw [hG] at hX3 hX4 hX6 hGG hG2 hz2 ⊢
 have hm2:=Hj (hm.out.below hB0); replace hX3:=Hj hX3; replace hX4:=Hj hX4; replace hX6:=Hj hX6; replace hB0:=Hj hB0; have x2 : w2.cell? ⟨G,2,none⟩ = some (.bool rs):=hX3.out.cell 2
 go_upto_if 12 with (fail)
 go_cut [5] (fun v5 wx => ∃ mt : List UInt8,v5 = .string (str mt) ∧ wx = w2 ∧ ¬ Cn.none_ c ∧ (rs = true → mt = c.meth.headD []))
 case first =>
  cases rs with
  | false =>
   go_wp2; go_meet; exact ⟨[71,69,84],rfl,rfl,fun h => (by cases (hnone.1 h).1),fun h => (by cases h)⟩
  | true =>
   have u1:=hum rfl; have u2:=hmt rfl; have x3 : w2.cell? ⟨G,3,none⟩ = some (.slice Am ms.length cm):=hX3.out.cell 3
   by_cases hus : used = ms.length
   ·have q : ((used : Int) == (ms.length : Int)) = true:=by rw [hus]; simp
    have hno : Cn.none_ c:=hnone.2 ⟨rfl,hus⟩
    have hse : Cn.sE c = 6:=if_pos hno
    have hw : ¬ Cn.wait c:=fun h => h.1 hno
    replace hse:=Hj hse; replace hw:=Hj hw; replace hno:=Hj hno; clear hnone hmt hum u1 u2 hus; have s0 : w2.cell? ⟨G + 1,0,none⟩ = some (.int .i64 (at_ : Int)):=hX4.out.cell 0
    have s1 : w2.cell? ⟨G + 1,1,none⟩ = some (.int .i64 (heads : Int)):=hX4.out.cell 1
    have s2 : w2.cell? ⟨G + 1,2,none⟩ = some (.int .i64 (used : Int)):=hX4.out.cell 2
    have s3 : w2.cell? ⟨G + 1,3,none⟩ = some (.slice Al l.length cl2):=hX4.out.cell 3
    have s4 : w2.cell? ⟨G + 1,4,none⟩ = some (.bool false):=hX4.out.cell 4
    have s5 : w2.cell? ⟨G + 1,5,none⟩ = some (.bool false):=hX4.out.cell 5
    have s6 : w2.cell? ⟨G + 1,6,none⟩ = some (.int .i64 0):=hX4.out.cell 6
    have sf6:=hX4.out.frozen 6; have r0 : w2.cell? ⟨G + 1 + 1,0,none⟩ = some (.int .i64 0):=hX6.out.cell 0
    have r1 : w2.cell? ⟨G + 1 + 1,1,none⟩ = some (.int .i64 0):=hX6.out.cell 1
    have r2 : w2.cell? ⟨G + 1 + 1,2,none⟩ = some (.int .i64 0):=hX6.out.cell 2
    have r3 : w2.cell? ⟨G + 1 + 1,3,none⟩ = some (.slice none 0 0):=hX6.out.cell 3
    have r4 : w2.cell? ⟨G + 1 + 1,4,none⟩ = some (.bool false):=hX6.out.cell 4
    have r5 : w2.cell? ⟨G + 1 + 1,5,none⟩ = some (.bool false):=hX6.out.cell 5
    have r6 : w2.cell? ⟨G + 1 + 1,6,none⟩ = some (.int .i64 0):=hX6.out.cell 6
    have rf0:=hX6.out.frozen 0; have rf1:=hX6.out.frozen 1; have rf2:=hX6.out.frozen 2; have rf3:=hX6.out.frozen 3; have rf4:=hX6.out.frozen 4; have rf5:=hX6.out.frozen 5; have rf6:=hX6.out.frozen 6; go_wp2_with fail
    refine ret_one rfl rfl rfl (t:=175) (g:=G + 1 + 1) (cs:=#[.int .i64 (at_ : Int),.int .i64 (heads : Int),.int .i64 (used : Int),.slice Al l.length cl2,.bool false,.bool false,.int .i64 6]) ?_ Tryz.underlying175 rfl (by kernel_rfl) ?_
    ·exact (hX6.out.far (p:=⟨G + 1,6,none⟩) (by show G + 1 + 1 ≠ G + 1; omega) (.int .i64 6)).seven (.int .i64 (at_ : Int)) (.int .i64 (heads : Int)) (.int .i64 (used : Int)) (.slice Al l.length cl2) (.bool false) (.bool false) (.int .i64 6)
    ·exact DmR.same hO.out hD.out (below_seven (hB0.out.setCell (p:=⟨G + 1,6,none⟩) (by show _ ≤ G + 1; omega) (.int .i64 6)) (by omega) (.int .i64 (at_ : Int)) (.int .i64 (heads : Int)) (.int .i64 (used : Int)) (.slice Al l.length cl2) (.bool false) (.bool false) (.int .i64 6)) (by rw [← hse.out]; exact hL.out.bad (cl:=cl) ha h64 hu hl hw.out (by rw [hse.out]; decide)) (.inl (by decide))
   ·have q : ((used : Int) == (ms.length : Int)) = false:=by rw [beq_eq_false_iff_ne]; omega
    have hlt : used < ms.length:=by omega
    have hno : ¬ Cn.none_ c:=fun h => hus (hnone.1 h).2
    obtain ⟨_,_,e0,hcm,-,hb⟩:=id hm2.out; cases e0
    obtain ⟨b,o,rfl,-,hx⟩:=hb (by omega)
    have d1 : w2.cell? ⟨b,o + used,none⟩ = some (.string (str ms[used])):=hx used _ (strs_at hlt)
    have s2 : w2.cell? ⟨G + 1,2,none⟩ = some (.int .i64 (used : Int)):=hX4.out.cell 2
    have hhd : c.meth.headD [] = ms[used]:=by rw [u2,List.drop_eq_getElem_cons hlt]; rfl
    replace hhd:=Hj hhd; replace hno:=Hj hno; clear hx hnone hmt hum u1 u2 hb; go_wp2; go_meet; exact ⟨ms[used],rfl,rfl,hno.out,fun _ => hhd.out.symm⟩
 case rest =>
  obtain ⟨mt,rfl,hwx,hno,hmt2⟩:=hcut
  subst hwx; rename World => w2
  clear hm2 hm hmt hum hnone x2; have hE3:=Blk.new w2 144 #[.int .i64 1,.string ⟨#[]⟩,.string ⟨#[]⟩,.slice none 0 0,.int .i64 0,.slice none 0 0,.string ⟨#[]⟩,.slice none 0 0]; have hX3e:=hX3.out.alloc (.cells #[.int .i64 1,.string ⟨#[]⟩,.string ⟨#[]⟩,.slice none 0 0,.int .i64 0,.slice none 0 0,.string ⟨#[]⟩,.slice none 0 0] 144); have hX4e:=hX4.out.alloc (.cells #[.int .i64 1,.string ⟨#[]⟩,.string ⟨#[]⟩,.slice none 0 0,.int .i64 0,.slice none 0 0,.string ⟨#[]⟩,.slice none 0 0] 144); have hX6e:=hX6.out.alloc (.cells #[.int .i64 1,.string ⟨#[]⟩,.string ⟨#[]⟩,.slice none 0 0,.int .i64 0,.slice none 0 0,.string ⟨#[]⟩,.slice none 0 0] 144); have hB3:=hB0.out.alloc (by omega) (.cells #[.int .i64 1,.string ⟨#[]⟩,.string ⟨#[]⟩,.slice none 0 0,.int .i64 0,.slice none 0 0,.string ⟨#[]⟩,.slice none 0 0] 144); replace hno:=Hj hno; replace hmt2:=Hj hmt2; have x0:=hX3e.cell 0; have x2:=hX3e.cell 2; go_upto_if 29 with (fail)
  rw [hz2] at hE3
  try rw [hz2]
  have hz3 : (w2.alloc (.cells #[.int .i64 1,.string ⟨#[]⟩,.string ⟨#[]⟩,.slice none 0 0,.int .i64 0,.slice none 0 0,.string ⟨#[]⟩,.slice none 0 0] 144)).heap.size = G + 1 + 1 + 1 + 1:=by rw [alloc_size',hz2]
  generalize w2.alloc (.cells #[.int .i64 1,.string ⟨#[]⟩,.string ⟨#[]⟩,.slice none 0 0,.int .i64 0,.slice none 0 0,.string ⟨#[]⟩,.slice none 0 0] 144) = w3 at *; clear x0 x2; replace hE3:=Hj hE3; replace hX3e:=Hj hX3e; replace hX4e:=Hj hX4e; replace hX6e:=Hj hX6e; replace hB3:=Hj hB3; clear hX3 hX4 hX6 hB0; go_cut [7,8] (fun v7 v8 wx => DPr c (G + 1 + 1 + 1) w3 v7 v8 wx)
  case first =>
   have x0:=hX3e.out.cell 0; have s0:=hX4e.out.cell 0; cases rs with
   | false =>
    go_wp2_with fail
    rw [hrest.out]
    refine (hRq.out _).mono ?_
    rintro e w4 h
    obtain ⟨o,rfl,ho,hb⟩:=DqR.form h
    obtain ⟨A4,c4,rfl,-,-,-⟩:=id (Rd.own ho)
    have hR4:=Hj (Rd.own ho); have hO4:=Hj (On.own ho); have hE4:=Hj (hE3.out.below hb); have hb4:=Hj hb; clear ho h hb; have f1:=hE4.out.frozen 1; have f2:=hE4.out.frozen 2; have f3:=hE4.out.frozen 3; have fc1 : w4.cell? ⟨G + 1 + 1 + 1,1,none⟩ = some (.string ⟨#[]⟩):=hE4.out.cell 1
    have fc2 : w4.cell? ⟨G + 1 + 1 + 1,2,none⟩ = some (.string ⟨#[]⟩):=hE4.out.cell 2
    have fc3 : w4.cell? ⟨G + 1 + 1 + 1,3,none⟩ = some (.slice none 0 0):=hE4.out.cell 3
    go_wp2; go_meet; exact DPr.req hres (by omega) hb4.out hR4.out hO4.out ((((Kp.refl (fun b => b = G + 1 + 1 + 1) w4).set_ (g:=G + 1 + 1 + 1) (fun _ => rfl) 1 (.string (str (rqM0 c.buf)))).set_ (g:=G + 1 + 1 + 1) (fun _ => rfl) 2 (.string (str (rqT0 c.buf)))).set_ (g:=G + 1 + 1 + 1) (fun _ => rfl) 3 (.slice A4 (rqL0 c.buf).length c4)) (((hE4.out.set_ 1 (.string (str (rqM0 c.buf)))).set_ 2 (.string (str (rqT0 c.buf)))).set_ 3 (.slice A4 (rqL0 c.buf).length c4))
   | true =>
    go_wp2_with fail
    rw [hrest.out]
    refine (hRr.out _).mono ?_
    rintro e w4 h
    obtain ⟨o,rfl,ho,hb⟩:=DrR.form h
    obtain ⟨A4,c4,rfl,-,-,-⟩:=id (Rd.own ho)
    have hR4:=Hj (Rd.own ho); have hO4:=Hj (On.own ho); have hE4:=Hj (hE3.out.below hb); have hb4:=Hj hb; clear ho h hb; have f4:=hE4.out.frozen 4; have f5:=hE4.out.frozen 5; have fc4 : w4.cell? ⟨G + 1 + 1 + 1,4,none⟩ = some (.int .i64 0):=hE4.out.cell 4
    have fc5 : w4.cell? ⟨G + 1 + 1 + 1,5,none⟩ = some (.slice none 0 0):=hE4.out.cell 5
    go_wp2; go_meet; exact DPr.resp hres (by omega) hb4.out hR4.out hO4.out (((Kp.refl (fun b => b = G + 1 + 1 + 1) w4).set_ (g:=G + 1 + 1 + 1) (fun _ => rfl) 4 (.int .i64 (rrS0 c.buf))).set_ (g:=G + 1 + 1 + 1) (fun _ => rfl) 5 (.slice A4 (rrL0 c.buf).length c4)) ((hE4.out.set_ 4 (.int .i64 (rrS0 c.buf))).set_ 5 (.slice A4 (rrL0 c.buf).length c4))
  case rest =>
   obtain ⟨N,e0,Ar,As,cr,cs,rfl,rfl,hE4,hRr4,hOr4,hRs4,hOs4,hFr4,hFs4,hK4,hk1,hd1,ht1,hz⟩:=hcut
   rename World => w4
   have hX34:=Hj (hX3e.out.kp (by omega) hK4); have hX44:=Hj (hX4e.out.kp (by omega) hK4); have hX64:=Hj (hX6e.out.kp (by omega) hK4); have hB4:=Hj (hB3.out.trans (hK4.toBelow (by omega) (fun k e => by omega))); have hz4:=hK4.size; rw [hz3] at hz4 hOr4 hOs4
   clear hRr hRq hrest hX3e hX4e hX6e hB3 hK4 hE3 hz3; replace hE4:=Hj hE4; replace hRr4:=Hj hRr4; replace hOr4:=Hj hOr4; replace hRs4:=Hj hRs4; replace hOs4:=Hj hOs4; replace hz:=Hj hz; replace hFr4:=Hj hFr4; replace hFs4:=Hj hFs4; by_cases h21 : Cn.hE c = 21
   ·have q : (Cn.hE c == 21) = true:=by rw [h21]; rfl
    replace h21:=Hj h21; have x0:=hX34.out.cell 0; have s0 : w4.cell? ⟨G + 1,0,none⟩ = some (.int .i64 (at_ : Int)):=hX44.out.cell 0
    have s1 : w4.cell? ⟨G + 1,1,none⟩ = some (.int .i64 (heads : Int)):=hX44.out.cell 1
    have s2 : w4.cell? ⟨G + 1,2,none⟩ = some (.int .i64 (used : Int)):=hX44.out.cell 2
    have s3 : w4.cell? ⟨G + 1,3,none⟩ = some (.slice Al l.length cl2):=hX44.out.cell 3
    have s4 : w4.cell? ⟨G + 1,4,none⟩ = some (.bool false):=hX44.out.cell 4
    have s5 : w4.cell? ⟨G + 1,5,none⟩ = some (.bool false):=hX44.out.cell 5
    have s6 : w4.cell? ⟨G + 1,6,none⟩ = some (.int .i64 0):=hX44.out.cell 6
    have sf5:=hX44.out.frozen 5; have sf0:=hX44.out.frozen 0; have r0 : w4.cell? ⟨G + 1 + 1,0,none⟩ = some (.int .i64 0):=hX64.out.cell 0
    have r1 : w4.cell? ⟨G + 1 + 1,1,none⟩ = some (.int .i64 0):=hX64.out.cell 1
    have r2 : w4.cell? ⟨G + 1 + 1,2,none⟩ = some (.int .i64 0):=hX64.out.cell 2
    have r3 : w4.cell? ⟨G + 1 + 1,3,none⟩ = some (.slice none 0 0):=hX64.out.cell 3
    have r4 : w4.cell? ⟨G + 1 + 1,4,none⟩ = some (.bool false):=hX64.out.cell 4
    have r5 : w4.cell? ⟨G + 1 + 1,5,none⟩ = some (.bool false):=hX64.out.cell 5
    have r6 : w4.cell? ⟨G + 1 + 1,6,none⟩ = some (.int .i64 0):=hX64.out.cell 6
    have rf0:=hX64.out.frozen 0; have rf1:=hX64.out.frozen 1; have rf2:=hX64.out.frozen 2; have rf3:=hX64.out.frozen 3; have rf4:=hX64.out.frozen 4; have rf5:=hX64.out.frozen 5; have rf6:=hX64.out.frozen 6; go_wp2_with fail
    refine ret_one rfl rfl rfl (t:=175) (g:=G + 1 + 1) (cs:=#[.int .i64 (all.length : Int),.int .i64 (heads : Int),.int .i64 (used : Int),.slice Al l.length cl2,.bool false,.bool true,.int .i64 0]) ?_ Tryz.underlying175 rfl (by kernel_rfl) ?_
    ·exact ((hX64.out.far (p:=⟨G + 1,5,none⟩) (by show G + 1 + 1 ≠ G + 1; omega) (.bool true)).far (p:=⟨G + 1,0,none⟩) (by show G + 1 + 1 ≠ G + 1; omega) (.int .i64 (all.length : Int))).seven (.int .i64 (all.length : Int)) (.int .i64 (heads : Int)) (.int .i64 (used : Int)) (.slice Al l.length cl2) (.bool false) (.bool true) (.int .i64 0)
    ·exact DmR.same hO.out hD.out (below_seven ((hB4.out.setCell (p:=⟨G + 1,5,none⟩) (by show _ ≤ G + 1; omega) (.bool true)).setCell (p:=⟨G + 1,0,none⟩) (by show _ ≤ G + 1; omega) (.int .i64 (all.length : Int))) (by omega) (.int .i64 (all.length : Int)) (.int .i64 (heads : Int)) (.int .i64 (used : Int)) (.slice Al l.length cl2) (.bool false) (.bool true) (.int .i64 0)) (hL.out.wt (cl:=cl) ha h64 hu hl ⟨hno.out,h21.out⟩) (.inr rfl)
   ·have q : (Cn.hE c == 21) = false:=by simpa using h21
    have e1:=hE4.out.cell 1; have e2:=hE4.out.cell 2; have e3:=hE4.out.cell 3; have hOf:=Hj (ref_request e0.rf (str e0.m) (str e0.t) Ar cr w4 hFr4.out hRr4.out); go_wp2_with fail
    refine hOf.out.mono ?_
    rintro e w5 ⟨rfl,hb5⟩
    rw [show frameV (frame 1 e0.rf) = .agg #[.int .i64 ((frame 1 e0.rf).1.1 : Int),.int .i64 ((frame 1 e0.rf).1.2 : Int)] from rfl]
    have hz5:=hb5.size; have hF6:=Blk.new w5 189 #[.int .i64 ((frame 1 e0.rf).1.1 : Int),.int .i64 ((frame 1 e0.rf).1.2 : Int)]; have hX35:=(hX34.out.below hb5).alloc (.cells #[.int .i64 ((frame 1 e0.rf).1.1 : Int),.int .i64 ((frame 1 e0.rf).1.2 : Int)] 189); have hX45:=(hX44.out.below hb5).alloc (.cells #[.int .i64 ((frame 1 e0.rf).1.1 : Int),.int .i64 ((frame 1 e0.rf).1.2 : Int)] 189); have hX65:=(hX64.out.below hb5).alloc (.cells #[.int .i64 ((frame 1 e0.rf).1.1 : Int),.int .i64 ((frame 1 e0.rf).1.2 : Int)] 189); have hE5:=(hE4.out.below hb5).alloc (.cells #[.int .i64 ((frame 1 e0.rf).1.1 : Int),.int .i64 ((frame 1 e0.rf).1.2 : Int)] 189); have hb6:=hb5.alloc hz5 (.cells #[.int .i64 ((frame 1 e0.rf).1.1 : Int),.int .i64 ((frame 1 e0.rf).1.2 : Int)] 189); have hz6 : (w5.alloc (.cells #[.int .i64 ((frame 1 e0.rf).1.1 : Int),.int .i64 ((frame 1 e0.rf).1.2 : Int)] 189)).heap.size = w5.heap.size + 1:=alloc_size' _ _
    have x2:=hX35.cell 2; clear e1 e2 e3 hOf; go_upto_if 67 with (fail)
    obtain ⟨gf,hgf⟩ : ∃ gf,w5.heap.size = gf:=⟨_,rfl⟩
    rw [hgf] at hF6 hz6 hz5 ⊢
    generalize w5.alloc (.cells #[.int .i64 ((frame 1 e0.rf).1.1 : Int),.int .i64 ((frame 1 e0.rf).1.2 : Int)] 189) = w6 at *; clear x2 hb5 hgf; have hRs6:=Hj (hRs4.out.below hb6); have hRr6:=Hj (hRr4.out.below hb6); have hB6:=Hj (hB4.out.trans (hb6.mono (by omega))); replace hb6:=Hj hb6; replace hF6:=Hj hF6; replace hX35:=Hj hX35; replace hX45:=Hj hX45; replace hX65:=Hj hX65; replace hE5:=Hj hE5; clear hX34 hX44 hX64 hE4 hRs4 hRr4 hB4; go_cut [10] (fun v10 wx => DFr c gf w6 v10 wx)
    case first =>
     cases rs with
     | false =>
      go_wp2; go_meet; refine ⟨_,_,_,rfl,hF6.out,Kp.refl _ _,fun h => ?_⟩
      rw [(hz.out h).2.2,if_neg (by rw [hres]; decide)]
      exact ⟨rfl,rfl,rfl⟩
     | true =>
      have e4:=hE5.out.cell 4; have e5:=hE5.out.cell 5; have hOf:=Hj (ref_response e0.sf mt e0.st As cs w6 hFs4.out hRs6.out); go_wp2_with fail
      refine hOf.out.mono ?_
      rintro e w7 ⟨rfl,hb7⟩
      rw [show frameV (respF mt e0.st (frame 4 e0.sf)) = .agg #[.int .i64 ((respF mt e0.st (frame 4 e0.sf)).1.1 : Int),.int .i64 ((respF mt e0.st (frame 4 e0.sf)).1.2 : Int)] from rfl]
      have hF7:=Hj (hF6.out.below hb7); have hk7:=Hj ((Kp.refl (fun b => b = gf) w6).below hb7); have gc0 : w7.cell? ⟨gf,0,none⟩ = some (.int .i64 ((frame 1 e0.rf).1.1 : Int)):=hF7.out.cell 0
      have gc1 : w7.cell? ⟨gf,1,none⟩ = some (.int .i64 ((frame 1 e0.rf).1.2 : Int)):=hF7.out.cell 1
      have g0:=hF7.out.frozen 0; have g1:=hF7.out.frozen 1; clear hb7 hOf e4 e5; go_wp2; go_meet; refine ⟨_,_,_,rfl,hF7.out.two _ _,(hk7.out.set_ (g:=gf) (fun _ => rfl) 0 _).set_ (g:=gf) (fun _ => rfl) 1 _,fun h => ?_⟩
      rw [(hz.out h).2.2,if_pos hres,← hmt2.out trivial]
      exact ⟨rfl,rfl,rfl⟩
    case rest =>
     obtain ⟨z,K,Ln,rfl,hF8,hK8,hzz⟩:=hcut
     rename World => w8
     have hX38:=Hj (hX35.out.kp (by omega) hK8); have hX48:=Hj (hX45.out.kp (by omega) hK8); have hX68:=Hj (hX65.out.kp (by omega) hK8); have hE8:=Hj (hE5.out.kp (by omega) hK8); have hB8:=Hj (hB6.out.trans (hK8.toBelow (by omega) (fun k e => by omega))); have hz8:=hK8.size; have hOw8 : On (fun b => G + 1 + 1 + 1 + 1 ≤ b ∧ b < w4.heap.size) (.slice Ar e0.rf.length cr):=hOr4.out
     have hR8r:=hRr6.out.kp (hOr4.out.off (fun b hp (e : b = gf) => by omega)) hK8; have hR8s:=hRs6.out.kp (hOs4.out.off (fun b hp (e : b = gf) => by omega)) hK8; have hw48 : w4.heap.size ≤ w8.heap.size:=by omega
     replace hR8r:=Hj hR8r; replace hR8s:=Hj hR8s; replace hF8:=Hj hF8; replace hzz:=Hj hzz; clear hX35 hX45 hX65 hE5 hB6 hK8 hF6 hb6 hRs6 hRr6 hOw8; by_cases h0 : Cn.hE c = 0
     rotate_left
     ·have q1 : (Cn.hE c != 0) = true:=by simpa using h0
      have hse : Cn.sE c = Cn.hE c:=by unfold Cn.sE; rw [if_neg hno.out,if_pos h0]
      replace hse:=Hj hse; have s0 : w8.cell? ⟨G + 1,0,none⟩ = some (.int .i64 (at_ : Int)):=hX48.out.cell 0
      have s1 : w8.cell? ⟨G + 1,1,none⟩ = some (.int .i64 (heads : Int)):=hX48.out.cell 1
      have s2 : w8.cell? ⟨G + 1,2,none⟩ = some (.int .i64 (used : Int)):=hX48.out.cell 2
      have s3 : w8.cell? ⟨G + 1,3,none⟩ = some (.slice Al l.length cl2):=hX48.out.cell 3
      have s4 : w8.cell? ⟨G + 1,4,none⟩ = some (.bool false):=hX48.out.cell 4
      have s5 : w8.cell? ⟨G + 1,5,none⟩ = some (.bool false):=hX48.out.cell 5
      have s6 : w8.cell? ⟨G + 1,6,none⟩ = some (.int .i64 0):=hX48.out.cell 6
      have sf6:=hX48.out.frozen 6; have r0 : w8.cell? ⟨G + 1 + 1,0,none⟩ = some (.int .i64 0):=hX68.out.cell 0
      have r1 : w8.cell? ⟨G + 1 + 1,1,none⟩ = some (.int .i64 0):=hX68.out.cell 1
      have r2 : w8.cell? ⟨G + 1 + 1,2,none⟩ = some (.int .i64 0):=hX68.out.cell 2
      have r3 : w8.cell? ⟨G + 1 + 1,3,none⟩ = some (.slice none 0 0):=hX68.out.cell 3
      have r4 : w8.cell? ⟨G + 1 + 1,4,none⟩ = some (.bool false):=hX68.out.cell 4
      have r5 : w8.cell? ⟨G + 1 + 1,5,none⟩ = some (.bool false):=hX68.out.cell 5
      have r6 : w8.cell? ⟨G + 1 + 1,6,none⟩ = some (.int .i64 0):=hX68.out.cell 6
      have rf0:=hX68.out.frozen 0; have rf1:=hX68.out.frozen 1; have rf2:=hX68.out.frozen 2; have rf3:=hX68.out.frozen 3; have rf4:=hX68.out.frozen 4; have rf5:=hX68.out.frozen 5; have rf6:=hX68.out.frozen 6; go_wp2_with fail
      refine ret_one rfl rfl rfl (t:=175) (g:=G + 1 + 1) (cs:=#[.int .i64 (at_ : Int),.int .i64 (heads : Int),.int .i64 (used : Int),.slice Al l.length cl2,.bool false,.bool false,.int .i64 (Cn.hE c)]) ?_ Tryz.underlying175 rfl (by kernel_rfl) ?_
      ·exact (hX68.out.far (p:=⟨G + 1,6,none⟩) (by show G + 1 + 1 ≠ G + 1; omega) (.int .i64 (Cn.hE c))).seven (.int .i64 (at_ : Int)) (.int .i64 (heads : Int)) (.int .i64 (used : Int)) (.slice Al l.length cl2) (.bool false) (.bool false) (.int .i64 (Cn.hE c))
      ·exact DmR.same hO.out hD.out (below_seven (hB8.out.setCell (p:=⟨G + 1,6,none⟩) (by show _ ≤ G + 1; omega) (.int .i64 (Cn.hE c))) (by omega) (.int .i64 (at_ : Int)) (.int .i64 (heads : Int)) (.int .i64 (used : Int)) (.slice Al l.length cl2) (.bool false) (.bool false) (.int .i64 (Cn.hE c))) (by rw [← hse.out]; exact hL.out.bad (cl:=cl) ha h64 hu hl (fun h => h21 h.2) (by rw [hse.out]; exact h0)) (.inl h0)
     ·have q1 : (Cn.hE c != 0) = false:=by simpa using h0
      obtain ⟨g1,g2,g3⟩:=hz.out h0
      obtain ⟨k1,k2,k3⟩:=hzz.out h0
      subst k1; subst k2; have hmn:=hL.out.many; have hse0 : Cn.sE c = if 64 ≤ heads then 5 else z:=by unfold Cn.sE; rw [if_neg hno.out,if_neg (fun h => h h0),hmn,k3]
      replace hse0:=Hj hse0; clear hmn; replace g1:=Hj g1; replace g2:=Hj g2; replace k3:=Hj k3; replace h0:=Hj h0; have s1 : w8.cell? ⟨G + 1,1,none⟩ = some (.int .i64 (heads : Int)):=hX48.out.cell 1
      by_cases h640 : heads = 64
      ·have q2 : ((heads : Int) == 64) = true:=by rw [h640]; rfl
       have hse : Cn.sE c = 5:=by rw [hse0.out,if_pos (by omega)]
       replace hse:=Hj hse; clear s1 h640; have s0 : w8.cell? ⟨G + 1,0,none⟩ = some (.int .i64 (at_ : Int)):=hX48.out.cell 0
       have s1 : w8.cell? ⟨G + 1,1,none⟩ = some (.int .i64 (heads : Int)):=hX48.out.cell 1
       have s2 : w8.cell? ⟨G + 1,2,none⟩ = some (.int .i64 (used : Int)):=hX48.out.cell 2
       have s3 : w8.cell? ⟨G + 1,3,none⟩ = some (.slice Al l.length cl2):=hX48.out.cell 3
       have s4 : w8.cell? ⟨G + 1,4,none⟩ = some (.bool false):=hX48.out.cell 4
       have s5 : w8.cell? ⟨G + 1,5,none⟩ = some (.bool false):=hX48.out.cell 5
       have s6 : w8.cell? ⟨G + 1,6,none⟩ = some (.int .i64 0):=hX48.out.cell 6
       have sf6:=hX48.out.frozen 6; have r0 : w8.cell? ⟨G + 1 + 1,0,none⟩ = some (.int .i64 0):=hX68.out.cell 0
       have r1 : w8.cell? ⟨G + 1 + 1,1,none⟩ = some (.int .i64 0):=hX68.out.cell 1
       have r2 : w8.cell? ⟨G + 1 + 1,2,none⟩ = some (.int .i64 0):=hX68.out.cell 2
       have r3 : w8.cell? ⟨G + 1 + 1,3,none⟩ = some (.slice none 0 0):=hX68.out.cell 3
       have r4 : w8.cell? ⟨G + 1 + 1,4,none⟩ = some (.bool false):=hX68.out.cell 4
       have r5 : w8.cell? ⟨G + 1 + 1,5,none⟩ = some (.bool false):=hX68.out.cell 5
       have r6 : w8.cell? ⟨G + 1 + 1,6,none⟩ = some (.int .i64 0):=hX68.out.cell 6
       have rf0:=hX68.out.frozen 0; have rf1:=hX68.out.frozen 1; have rf2:=hX68.out.frozen 2; have rf3:=hX68.out.frozen 3; have rf4:=hX68.out.frozen 4; have rf5:=hX68.out.frozen 5; have rf6:=hX68.out.frozen 6; go_wp2_with fail
       refine ret_one rfl rfl rfl (t:=175) (g:=G + 1 + 1) (cs:=#[.int .i64 (at_ : Int),.int .i64 (heads : Int),.int .i64 (used : Int),.slice Al l.length cl2,.bool false,.bool false,.int .i64 5]) ?_ Tryz.underlying175 rfl (by kernel_rfl) ?_
       ·exact (hX68.out.far (p:=⟨G + 1,6,none⟩) (by show G + 1 + 1 ≠ G + 1; omega) (.int .i64 5)).seven (.int .i64 (at_ : Int)) (.int .i64 (heads : Int)) (.int .i64 (used : Int)) (.slice Al l.length cl2) (.bool false) (.bool false) (.int .i64 5)
       ·exact DmR.same hO.out hD.out (below_seven (hB8.out.setCell (p:=⟨G + 1,6,none⟩) (by show _ ≤ G + 1; omega) (.int .i64 5)) (by omega) (.int .i64 (at_ : Int)) (.int .i64 (heads : Int)) (.int .i64 (used : Int)) (.slice Al l.length cl2) (.bool false) (.bool false) (.int .i64 5)) (by rw [← hse.out]; exact hL.out.bad (cl:=cl) ha h64 hu hl (fun h => h21 h.2) (by rw [hse.out]; decide)) (.inl (by decide))
      ·have q2 : ((heads : Int) == 64) = false:=by simp; omega
       have hse : Cn.sE c = z:=by rw [hse0.out,if_neg (by omega)]
       replace hse:=Hj hse; by_cases hw0 : z = 0
       rotate_left
       ·have q3 : (z != 0) = true:=by simpa using hw0
        have s0 : w8.cell? ⟨G + 1,0,none⟩ = some (.int .i64 (at_ : Int)):=hX48.out.cell 0
        have s1 : w8.cell? ⟨G + 1,1,none⟩ = some (.int .i64 (heads : Int)):=hX48.out.cell 1
        have s2 : w8.cell? ⟨G + 1,2,none⟩ = some (.int .i64 (used : Int)):=hX48.out.cell 2
        have s3 : w8.cell? ⟨G + 1,3,none⟩ = some (.slice Al l.length cl2):=hX48.out.cell 3
        have s4 : w8.cell? ⟨G + 1,4,none⟩ = some (.bool false):=hX48.out.cell 4
        have s5 : w8.cell? ⟨G + 1,5,none⟩ = some (.bool false):=hX48.out.cell 5
        have s6 : w8.cell? ⟨G + 1,6,none⟩ = some (.int .i64 0):=hX48.out.cell 6
        have sf6:=hX48.out.frozen 6; have r0 : w8.cell? ⟨G + 1 + 1,0,none⟩ = some (.int .i64 0):=hX68.out.cell 0
        have r1 : w8.cell? ⟨G + 1 + 1,1,none⟩ = some (.int .i64 0):=hX68.out.cell 1
        have r2 : w8.cell? ⟨G + 1 + 1,2,none⟩ = some (.int .i64 0):=hX68.out.cell 2
        have r3 : w8.cell? ⟨G + 1 + 1,3,none⟩ = some (.slice none 0 0):=hX68.out.cell 3
        have r4 : w8.cell? ⟨G + 1 + 1,4,none⟩ = some (.bool false):=hX68.out.cell 4
        have r5 : w8.cell? ⟨G + 1 + 1,5,none⟩ = some (.bool false):=hX68.out.cell 5
        have r6 : w8.cell? ⟨G + 1 + 1,6,none⟩ = some (.int .i64 0):=hX68.out.cell 6
        have rf0:=hX68.out.frozen 0; have rf1:=hX68.out.frozen 1; have rf2:=hX68.out.frozen 2; have rf3:=hX68.out.frozen 3; have rf4:=hX68.out.frozen 4; have rf5:=hX68.out.frozen 5; have rf6:=hX68.out.frozen 6; go_wp2_with fail
        refine ret_one rfl rfl rfl (t:=175) (g:=G + 1 + 1) (cs:=#[.int .i64 (at_ : Int),.int .i64 (heads : Int),.int .i64 (used : Int),.slice Al l.length cl2,.bool false,.bool false,.int .i64 z]) ?_ Tryz.underlying175 rfl (by kernel_rfl) ?_
        ·exact (hX68.out.far (p:=⟨G + 1,6,none⟩) (by show G + 1 + 1 ≠ G + 1; omega) (.int .i64 z)).seven (.int .i64 (at_ : Int)) (.int .i64 (heads : Int)) (.int .i64 (used : Int)) (.slice Al l.length cl2) (.bool false) (.bool false) (.int .i64 z)
        ·exact DmR.same hO.out hD.out (below_seven (hB8.out.setCell (p:=⟨G + 1,6,none⟩) (by show _ ≤ G + 1; omega) (.int .i64 z)) (by omega) (.int .i64 (at_ : Int)) (.int .i64 (heads : Int)) (.int .i64 (used : Int)) (.slice Al l.length cl2) (.bool false) (.bool false) (.int .i64 z)) (by rw [← hse.out]; exact hL.out.bad (cl:=cl) ha h64 hu hl (fun h => h21 h.2) (by rw [hse.out]; exact hw0)) (.inl hw0)
       ·have q3 : (z != 0) = false:=by simpa using hw0
        have hs : Cn.sE c = 0:=hse.out.trans hw0
        have hfr0:=Hj (k3.out.symm.trans hw0); clear hw0 hse k3 g3; have hnw : ¬ Cn.wait c:=fun h => h21 h.2
        obtain ⟨n,hn,hn4,hnl⟩:=Cn.hd_len h0.out
        have hNn : N = (n : Int):=g2.out.symm.trans hn
        subst hNn; have hnl2 : at_ + n ≤ all.length:=by rw [hL.out.buf,List.length_drop] at hnl; omega
        have s0 : w8.cell? ⟨G + 1,0,none⟩ = some (.int .i64 (at_ : Int)):=hX48.out.cell 0
        have z0:=hX48.out.frozen 0; have z1:=hX48.out.frozen 1; replace hn:=Hj hn; replace hs:=Hj hs; replace hnw:=Hj hnw; go_upto_region 30 with (fail)
        have hX9 : Blk ((w8.setCell ⟨G + 1,0,none⟩ (.int .i64 ((at_ : Int) + (n : Int)))).setCell ⟨G + 1,1,none⟩ (.int .i64 ((heads : Int) + 1))) (G + 1) 175 #[.int .i64 ((at_ + n : Nat) : Int),.int .i64 ((heads + 1 : Nat) : Int),.int .i64 (used : Int),.slice Al l.length cl2,.bool false,.bool false,.int .i64 0]:=(hX48.out.set_ 0 (.int .i64 ((at_ : Int) + (n : Int)))).set_ 1 (.int .i64 ((heads : Int) + 1))
        obtain ⟨at3,hat3⟩ : ∃ m : Nat,at_ + n = m:=⟨_,rfl⟩
        obtain ⟨heads3,hhd3⟩ : ∃ m : Nat,heads + 1 = m:=⟨_,rfl⟩
        rw [hat3,hhd3] at hX9
        rw [hat3] at hnl2
        have hlt3 : heads < heads3:=by omega
        replace hat3:=Hj hat3; replace hhd3:=Hj hhd3; have hk89:=((Kp.refl (fun b => b = G + 1) w8).set_ (g:=G + 1) (fun _ => rfl) 0 (.int .i64 ((at_ : Int) + (n : Int)))).set_ (g:=G + 1) (fun _ => rfl) 1 (.int .i64 ((heads : Int) + 1)); generalize (w8.setCell ⟨G + 1,0,none⟩ (.int .i64 ((at_ : Int) + (n : Int)))).setCell ⟨G + 1,1,none⟩ (.int .i64 ((heads : Int) + 1)) = w9 at *; clear s0 s1 z0 z1; have hz9:=hk89.size; have hX39:=hX38.out.kp (by omega) hk89; have hX69:=hX68.out.kp (by omega) hk89; have hE9:=hE8.out.kp (by omega) hk89; have hF9:=hF8.out.kp (by omega) hk89; have hB9:=hB8.out.trans (hk89.toBelow (by omega) (fun k e => by omega)); have hO9:=own_below hO.out hB9; have hlo : ∀ b,(Value.slice Al l.length cl2).ownBlock = some b → b < G:=fun b e => by have:=(World.ownsRow.lt hO.out b e).2; omega
        have hg9 : (Value.slice Al l.length cl2).ownBlock ≠ some (G + 1):=fun e => by have:=hlo _ e; omega
        have hD9 : Cn.DvsC w9 (DP B (fun b => b = G + 1 + 1) w9 (.slice Al l.length cl2) (G + 1)) l ys:=(hD.out.kp ((Kp.refl (fun _ => False) w).below hB9) (fun _ _ h => h)).mono (fun b hp => ⟨hp.1,by have:=hp.2.1; omega,hp.2.2,by have:=hp.2.1; omega,by have:=hp.2.1; omega,by have:=hp.2.1; omega⟩)
        have hP9 : ∀ b,(G + 1 + 1 + 1 + 1 ≤ b ∧ b < w4.heap.size) → DP B (fun b => b = G + 1 + 1) w9 (.slice Al l.length cl2) (G + 1) b:=fun b hp => ⟨by omega,by omega,fun e => by have:=hlo _ e; omega,by omega,by omega,by omega⟩
        have hRr9:=hR8r.out.kp (hOr4.out.off (fun b hp (e : b = G + 1) => by omega)) hk89; have hRs9:=hR8s.out.kp (hOs4.out.off (fun b hp (e : b = G + 1) => by omega)) hk89; have hEv9 : Cn.DvC w9 (DP B (fun b => b = G + 1 + 1) w9 (.slice Al l.length cl2) (G + 1)) e0 [.int .i64 1,.string (str e0.m),.string (str e0.t),.slice Ar e0.rf.length cr,.int .i64 e0.st,.slice As e0.sf.length cs,.string ⟨#[]⟩,.slice none 0 0] :=
         ⟨.slice Ar e0.rf.length cr,.slice As e0.sf.length cs,.slice none 0 0,by rw [hk1,hd1]; rfl,hRr9,fun _ => hOr4.out.mono hP9,hRs9,fun _ => hOs4.out.mono hP9,by rw [ht1]; exact Rd.nil _ 2,fun h => by rw [ht1] at h; cases h⟩
        have s3 : w9.cell? ⟨G + 1,3,none⟩ = some (.slice Al l.length cl2):=hX9.cell 3
        have hBw9 : B ≤ w9.heap.size:=by omega
        replace hX9:=Hj hX9; replace hO9:=Hj hO9; replace hD9:=Hj hD9; replace hg9:=Hj hg9; replace hEv9:=Hj hEv9; replace hX39:=Hj hX39; replace hX69:=Hj hX69; replace hF9:=Hj hF9; replace hB9:=Hj hB9; replace hlo:=Hj hlo; clear hRr9 hRs9 hP9 hk89 hX38 hX48 hX68 hE8 hF8 hB8 hR8r hR8s; have y0:=hE9.cell 0; have y1:=hE9.cell 1; have y2:=hE9.cell 2; have y3:=hE9.cell 3; have y4:=hE9.cell 4; have y5:=hE9.cell 5; have y6:=hE9.cell 6; have y7:=hE9.cell 7; replace hE9:=Hj hE9; go_upto_region 31 with (at_builtin; refine push_dv _ _ rfl rfl rfl hO9.out (by rfl) (by intro u hu; simp only [List.mem_cons,List.mem_nil_iff,or_false] at hu; rcases hu with rfl | rfl | rfl | rfl | rfl | rfl | rfl | rfl <;> rfl) (by omega) (by omega) ?_; intro v7 w7 ho7 hg7 hat7; obtain ⟨i1,i2,i3,i4,i5,i6⟩:=tail_push hX9.out hO9.out hD9.out hg9.out hBw9 hEv9.out ho7 hg7 hat7; have hX7:=Blk.grown8 (hX9.out.alloc _) hg7 hg9.out; have p3:=hX7.cell 3; have pf3:=hX7.frozen 3; obtain ⟨A7,c7,rfl,-,-,-⟩:=id (Rd.own ho7); replace i1:=Hj i1; replace i2:=Hj i2; replace i3:=Hj i3; replace i4:=Hj i4; replace i5:=Hj i5; replace i6:=Hj i6; clear ho7 hg7 hat7 hX7 s3 y0 y1 y2 y3 y4 y5 y6 y7)
        clear p3 pf3; generalize w7.setCell ⟨G + 1,3,none⟩ (.slice A7 (l.length + 1) c7) = w10 at *; have hz10:=i4.out.size; have hX3a:=Hj (hX39.out.kp (by rintro (h | h); omega; have:=hlo.out _ h; omega) i4.out)
        have hX6a:=Hj (hX69.out.kp (by rintro (h | h); omega; have:=hlo.out _ h; omega) i4.out)
        have hEa:=Hj (hE9.out.kp (by rintro (h | h); omega; have:=hlo.out _ h; omega) i4.out)
        have hFa:=Hj (hF9.out.kp (by rintro (h | h); omega; have:=hlo.out _ h; omega) i4.out)
        have hl2 : (l ++ [e0]).length = l.length + 1:=by rw [List.length_append,List.length_singleton]
        have hKw : Kp (fun b => (Value.slice Al l.length cl2).ownBlock = some b) w w10:=((Kp.refl _ w).below hB9.out).next (fun k hlt h => h.elim (fun h => by omega) id) i4.out
        have h76 : ∀ b,(Value.slice A7 (l.length + 1) c7).ownBlock = some b → b ≠ G + 1 + 1:=fun b e h => by
         rcases i6.out b e with h2 | h2
         ·have:=hlo.out b h2; omega
         ·omega
        have h7w : ∀ b,b < w.heap.size → (Value.slice A7 (l.length + 1) c7).ownBlock = some b → (Value.slice Al l.length cl2).ownBlock = some b:=fun b hlt e => (i6.out b e).elim id (fun h => by omega)
        replace hKw:=Hj hKw; replace h76:=Hj h76; replace h7w:=Hj h7w; clear hX39 hX69 hE9 hF9; have x2 : w10.cell? ⟨G,2,none⟩ = some (.bool rs):=hX3a.out.cell 2
        have y4 : w10.cell? ⟨G + 1 + 1 + 1,4,none⟩ = some (.int .i64 e0.st):=hEa.out.cell 4
        cases rs with
        | false =>
         have hi : Cn.inf c = false:=by unfold Cn.inf; rw [hres]; rfl
         have x0 : w10.cell? ⟨G,0,none⟩ = some (.string (str all)):=hX3a.out.cell 0
         have x1 : w10.cell? ⟨G,1,none⟩ = some (.bool cl):=hX3a.out.cell 1
         have x3 : w10.cell? ⟨G,3,none⟩ = some (.slice Am ms.length cm):=hX3a.out.cell 3
         have s0 : w10.cell? ⟨G + 1,0,none⟩ = some (.int .i64 (at3 : Int)):=i1.out.cell 0
         have s1 : w10.cell? ⟨G + 1,1,none⟩ = some (.int .i64 (heads3 : Int)):=i1.out.cell 1
         have s2 : w10.cell? ⟨G + 1,2,none⟩ = some (.int .i64 (used : Int)):=i1.out.cell 2
         have s3 : w10.cell? ⟨G + 1,3,none⟩ = some (.slice A7 (l.length + 1) c7):=i1.out.cell 3
         have s4 : w10.cell? ⟨G + 1,4,none⟩ = some (.bool false):=i1.out.cell 4
         have s5 : w10.cell? ⟨G + 1,5,none⟩ = some (.bool false):=i1.out.cell 5
         have s6 : w10.cell? ⟨G + 1,6,none⟩ = some (.int .i64 0):=i1.out.cell 6
         have p0 : w10.cell? ⟨gf,0,none⟩ = some (.int .i64 ((Cn.hFr c).1.1 : Int)):=hFa.out.cell 0
         have p1 : w10.cell? ⟨gf,1,none⟩ = some (.int .i64 ((Cn.hFr c).1.2 : Int)):=hFa.out.cell 1
         have b1 : (Cn.sC c).buf = all.drop at3:=by show Cn.dr c.buf = _; rw [Cn.dr_drop hn.out,hL.out.buf,List.drop_drop,hat3.out]
         have b2 : (Cn.sC c).kind = 1 ∨ (Cn.sC c).kind = 2 ∨ (Cn.sC c).kind = 3 ∨ (Cn.sC c).kind = 4:=(Cn.hFr_kinds hfr0.out).1
         have b3 : (Cn.sC c).kind = 1 → (Cn.sC c).len = 0:=(Cn.hFr_kinds hfr0.out).2
         have b4 : (Cn.sC c).len ≤ 1000000:=Nat.le_trans (Cn.hFr_le c) (by omega)
         have b5 : (Cn.sC c).dec = Ck.zero:=rfl
         have b6 : Own w10 B 144 8 (.slice A7 (l ++ [e0]).length c7) (l ++ [e0]).length (ys ++ [.int .i64 1,.string (str e0.m),.string (str e0.t),.slice Ar e0.rf.length cr,.int .i64 e0.st,.slice As e0.sf.length cs,.string ⟨#[]⟩,.slice none 0 0]):=by rw [hl2]; exact i2.out
         have b7 : Cn.DvsC w10 (fun b => B ≤ b ∧ b < w10.heap.size ∧ (Value.slice A7 (l ++ [e0]).length c7).ownBlock ≠ some b ∧ ¬ b = G + 1 + 1) (l ++ [e0]) (ys ++ [.int .i64 1,.string (str e0.m),.string (str e0.t),.slice Ar e0.rf.length cr,.int .i64 e0.st,.slice As e0.sf.length cs,.string ⟨#[]⟩,.slice none 0 0]):=by rw [hl2]; exact i3.out.mono (fun b hp => ⟨hp.1,hp.2.1,hp.2.2.1,hp.2.2.2.2.2⟩)
         have b8 : (l ++ [e0]).length ≤ 1000000:=by rw [hl2]; omega
         have b9 : B ≤ w10.heap.size:=by omega
         have b10 : used ≤ 1000000:=by omega
         have b11 : ∀ b,b = G + 1 + 1 → b < w10.heap.size:=fun b e => by omega
         have hbody:=dbody_any (X:=fun b => b = G + 1 + 1) all cl false Am ms.length cm at3 heads3 used (Cn.sC c) b1 hnl2 hall b5 b2 b3 b4 b10 A7 c7 w10 b6 b9 b8 b11 b7; clear b1 b2 b3 b4 b5 b6 b7 b8 b9 b10 b11; rw [hl2] at hbody
         replace hbody:=Hj hbody; go_wp2_with fail
         refine hbody.out.mono ?_
         rintro e w11 ⟨at',A',c',ys',rfl,q1,q2,q3,q4,q5,q6⟩
         clear s0 s1 s2 s3 s4 s5 s6 x0 x1 x2 x3 p0 p1 y4; have hI:=hL.out.bod (cl:=cl) ha hu hl hnw.out hs.out hi q1 q2; rw [g1.out,hhd3.out] at hI
         generalize (l ++ [e0]) ++ Cn.evs (Cn.pData (Cn.sC c)) (Cn.dEnd (Cn.sC c) cl) (Cn.pTr (Cn.sC c)) = l3 at hI q3 q4 q6 ⊢
         generalize used + (if Cn.dEnd (Cn.sC c) cl = true then 1 else 0) = used3 at hI ⊢
         generalize (!Cn.dEnd (Cn.sC c) cl && !decide ((Cn.sC c).kind = 4)) = pt3 at hI ⊢
         generalize decide ((Cn.sC c).kind = 4) = op3 at hI ⊢
         generalize Cn.pErr (Cn.sC c) = code3 at hI ⊢
         replace hI:=Hj hI; have hX6b:=Hj (hX6a.out.kp (fun h => h76.out _ h rfl) q5); have hz11:=q5.size; have r0 : w11.cell? ⟨G + 1 + 1,0,none⟩ = some (.int .i64 0):=hX6b.out.cell 0
         have r1 : w11.cell? ⟨G + 1 + 1,1,none⟩ = some (.int .i64 0):=hX6b.out.cell 1
         have r2 : w11.cell? ⟨G + 1 + 1,2,none⟩ = some (.int .i64 0):=hX6b.out.cell 2
         have r3 : w11.cell? ⟨G + 1 + 1,3,none⟩ = some (.slice none 0 0):=hX6b.out.cell 3
         have r4 : w11.cell? ⟨G + 1 + 1,4,none⟩ = some (.bool false):=hX6b.out.cell 4
         have r5 : w11.cell? ⟨G + 1 + 1,5,none⟩ = some (.bool false):=hX6b.out.cell 5
         have r6 : w11.cell? ⟨G + 1 + 1,6,none⟩ = some (.int .i64 0):=hX6b.out.cell 6
         have rf0:=hX6b.out.frozen 0; have rf1:=hX6b.out.frozen 1; have rf2:=hX6b.out.frozen 2; have rf3:=hX6b.out.frozen 3; have rf4:=hX6b.out.frozen 4; have rf5:=hX6b.out.frozen 5; have rf6:=hX6b.out.frozen 6; replace q3:=Hj q3; replace q4:=Hj q4; replace q5:=Hj q5; replace q6:=Hj q6; replace q2:=Hj q2; go_wp2_with fail
         refine ret_one rfl rfl rfl (t:=175) (g:=G + 1 + 1) (cs:=#[.int .i64 (at' : Int),.int .i64 (heads3 : Int),.int .i64 (used3 : Int),.slice A' l3.length c',.bool op3,.bool pt3,.int .i64 code3]) ?_ Tryz.underlying175 rfl (by kernel_rfl) ?_
         ·exact hX6b.out.seven (.int .i64 (at' : Int)) (.int .i64 (heads3 : Int)) (.int .i64 (used3 : Int)) (.slice A' l3.length c') (.bool op3) (.bool pt3) (.int .i64 code3)
         ·have hKf:=(Kp.refl (fun b => b = G + 1 + 1) w11).seven (g:=G + 1 + 1) (fun _ => rfl) (.int .i64 (at' : Int)) (.int .i64 (heads3 : Int)) (.int .i64 (used3 : Int)) (.slice A' l3.length c') (.bool op3) (.bool pt3) (.int .i64 code3)
          refine ⟨at',heads3,used3,l3,op3,pt3,code3,A',c',ys',rfl,hI.out,q3.out.kp (fun b e (h : b = G + 1 + 1) => ?_) hKf,(q4.out.kp hKf (fun b hp h => hp.2.2.2 h)).mono (fun b hp => ⟨hp.1,Nat.lt_of_lt_of_le hp.2.1 hKf.size,hp.2.2.1⟩),(hKw.out.next h7w.out q5.out).next (fun k hlt (h : k = G + 1 + 1) => by omega) hKf,.inl hlt3⟩
          rcases q6.out b e with h2 | h2
          ·exact h76.out b h2 h
          ·omega
        | true =>
         have hstv : e0.st = rrS c.buf:=by rw [← g1.out]; unfold Cn.hEv; rw [if_pos hres]; rfl
         have ⟨h100,h599⟩ : 100 ≤ e0.st ∧ e0.st ≤ 599:=by rw [hstv]; exact Cn.rr_hundred (by have h:=h0.out; unfold Cn.hE at h; rw [if_pos hres] at h; exact h)
         cases hi : Cn.inf c with
         | true =>
          replace hstv:=Hj hstv; have h200 : e0.st < 200:=by unfold Cn.inf at hi; rw [hres,Bool.true_and] at hi; rw [hstv.out]; exact of_decide_eq_true hi
          have hw64 : wrap64 (Int.tdiv e0.st 100) = Int.tdiv e0.st 100:=by rw [Int.tdiv_eq_ediv_of_nonneg (by omega)]; unfold wrap64; omega
          have q : (Int.tdiv e0.st 100 == 1) = true:=by rw [Int.tdiv_eq_ediv_of_nonneg (by omega)]; simp; omega
          have q' : (wrap64 (Int.tdiv e0.st 100) == 1) = true:=by rw [hw64]; exact q
          have s0 : w10.cell? ⟨G + 1,0,none⟩ = some (.int .i64 (at3 : Int)):=i1.out.cell 0
          have s1 : w10.cell? ⟨G + 1,1,none⟩ = some (.int .i64 (heads3 : Int)):=i1.out.cell 1
          have s2 : w10.cell? ⟨G + 1,2,none⟩ = some (.int .i64 (used : Int)):=i1.out.cell 2
          have s3 : w10.cell? ⟨G + 1,3,none⟩ = some (.slice A7 (l.length + 1) c7):=i1.out.cell 3
          have s4 : w10.cell? ⟨G + 1,4,none⟩ = some (.bool false):=i1.out.cell 4
          have s5 : w10.cell? ⟨G + 1,5,none⟩ = some (.bool false):=i1.out.cell 5
          have s6 : w10.cell? ⟨G + 1,6,none⟩ = some (.int .i64 0):=i1.out.cell 6
          have r0 : w10.cell? ⟨G + 1 + 1,0,none⟩ = some (.int .i64 0):=hX6a.out.cell 0
          have r1 : w10.cell? ⟨G + 1 + 1,1,none⟩ = some (.int .i64 0):=hX6a.out.cell 1
          have r2 : w10.cell? ⟨G + 1 + 1,2,none⟩ = some (.int .i64 0):=hX6a.out.cell 2
          have r3 : w10.cell? ⟨G + 1 + 1,3,none⟩ = some (.slice none 0 0):=hX6a.out.cell 3
          have r4 : w10.cell? ⟨G + 1 + 1,4,none⟩ = some (.bool false):=hX6a.out.cell 4
          have r5 : w10.cell? ⟨G + 1 + 1,5,none⟩ = some (.bool false):=hX6a.out.cell 5
          have r6 : w10.cell? ⟨G + 1 + 1,6,none⟩ = some (.int .i64 0):=hX6a.out.cell 6
          have rf0:=hX6a.out.frozen 0; have rf1:=hX6a.out.frozen 1; have rf2:=hX6a.out.frozen 2; have rf3:=hX6a.out.frozen 3; have rf4:=hX6a.out.frozen 4; have rf5:=hX6a.out.frozen 5; have rf6:=hX6a.out.frozen 6; go_wp2_with fail
          refine ret_one rfl rfl rfl (t:=175) (g:=G + 1 + 1) (cs:=#[.int .i64 (at3 : Int),.int .i64 (heads3 : Int),.int .i64 (used : Int),.slice A7 (l.length + 1) c7,.bool false,.bool false,.int .i64 0]) ?_ Tryz.underlying175 rfl (by kernel_rfl) ?_
          ·exact hX6a.out.seven (.int .i64 (at3 : Int)) (.int .i64 (heads3 : Int)) (.int .i64 (used : Int)) (.slice A7 (l.length + 1) c7) (.bool false) (.bool false) (.int .i64 0)
          ·have hKf:=(Kp.refl (fun b => b = G + 1 + 1) w10).seven (g:=G + 1 + 1) (fun _ => rfl) (.int .i64 (at3 : Int)) (.int .i64 (heads3 : Int)) (.int .i64 (used : Int)) (.slice A7 (l.length + 1) c7) (.bool false) (.bool false) (.int .i64 0)
           refine ⟨at3,heads3,used,l ++ [e0],false,false,0,A7,c7,_,by rw [hl2],by rw [← g1.out,← hat3.out,← hhd3.out]; exact hL.out.inf_ (cl:=cl) ha hu hl hnw.out hs.out hi hn.out,by rw [hl2]; exact i2.out.kp (fun b e (h : b = G + 1 + 1) => h76.out b e h) hKf,by rw [hl2]; exact (i3.out.kp hKf (fun b hp h => hp.2.2.2.2.2 h)).mono (fun b hp => ⟨hp.1,Nat.lt_of_lt_of_le hp.2.1 hKf.size,hp.2.2.1⟩),hKw.out.next (fun k hlt (h : k = G + 1 + 1) => by omega) hKf,.inl hlt3⟩
         | false =>
          have h200 : 200 ≤ e0.st:=by unfold Cn.inf at hi; rw [hres,Bool.true_and] at hi; have:=of_decide_eq_false hi; rw [← hstv] at this; omega
          have hw64 : wrap64 (Int.tdiv e0.st 100) = Int.tdiv e0.st 100:=by rw [Int.tdiv_eq_ediv_of_nonneg (by omega)]; unfold wrap64; omega
          have q : (Int.tdiv e0.st 100 == 1) = false:=by rw [Int.tdiv_eq_ediv_of_nonneg (by omega)]; simp; omega
          have q' : (wrap64 (Int.tdiv e0.st 100) == 1) = false:=by rw [hw64]; exact q
          replace hstv:=Hj hstv; have x0 : w10.cell? ⟨G,0,none⟩ = some (.string (str all)):=hX3a.out.cell 0
          have x1 : w10.cell? ⟨G,1,none⟩ = some (.bool cl):=hX3a.out.cell 1
          have x3 : w10.cell? ⟨G,3,none⟩ = some (.slice Am ms.length cm):=hX3a.out.cell 3
          have s0 : w10.cell? ⟨G + 1,0,none⟩ = some (.int .i64 (at3 : Int)):=i1.out.cell 0
          have s1 : w10.cell? ⟨G + 1,1,none⟩ = some (.int .i64 (heads3 : Int)):=i1.out.cell 1
          have s2 : w10.cell? ⟨G + 1,2,none⟩ = some (.int .i64 (used : Int)):=i1.out.cell 2
          have s3 : w10.cell? ⟨G + 1,3,none⟩ = some (.slice A7 (l.length + 1) c7):=i1.out.cell 3
          have s4 : w10.cell? ⟨G + 1,4,none⟩ = some (.bool false):=i1.out.cell 4
          have s5 : w10.cell? ⟨G + 1,5,none⟩ = some (.bool false):=i1.out.cell 5
          have s6 : w10.cell? ⟨G + 1,6,none⟩ = some (.int .i64 0):=i1.out.cell 6
          have p0 : w10.cell? ⟨gf,0,none⟩ = some (.int .i64 ((Cn.hFr c).1.1 : Int)):=hFa.out.cell 0
          have p1 : w10.cell? ⟨gf,1,none⟩ = some (.int .i64 ((Cn.hFr c).1.2 : Int)):=hFa.out.cell 1
          have b1 : (Cn.sC c).buf = all.drop at3:=by show Cn.dr c.buf = _; rw [Cn.dr_drop hn.out,hL.out.buf,List.drop_drop,hat3.out]
          have b2 : (Cn.sC c).kind = 1 ∨ (Cn.sC c).kind = 2 ∨ (Cn.sC c).kind = 3 ∨ (Cn.sC c).kind = 4:=(Cn.hFr_kinds hfr0.out).1
          have b3 : (Cn.sC c).kind = 1 → (Cn.sC c).len = 0:=(Cn.hFr_kinds hfr0.out).2
          have b4 : (Cn.sC c).len ≤ 1000000:=Nat.le_trans (Cn.hFr_le c) (by omega)
          have b5 : (Cn.sC c).dec = Ck.zero:=rfl
          have b6 : Own w10 B 144 8 (.slice A7 (l ++ [e0]).length c7) (l ++ [e0]).length (ys ++ [.int .i64 1,.string (str e0.m),.string (str e0.t),.slice Ar e0.rf.length cr,.int .i64 e0.st,.slice As e0.sf.length cs,.string ⟨#[]⟩,.slice none 0 0]):=by rw [hl2]; exact i2.out
          have b7 : Cn.DvsC w10 (fun b => B ≤ b ∧ b < w10.heap.size ∧ (Value.slice A7 (l ++ [e0]).length c7).ownBlock ≠ some b ∧ ¬ b = G + 1 + 1) (l ++ [e0]) (ys ++ [.int .i64 1,.string (str e0.m),.string (str e0.t),.slice Ar e0.rf.length cr,.int .i64 e0.st,.slice As e0.sf.length cs,.string ⟨#[]⟩,.slice none 0 0]):=by rw [hl2]; exact i3.out.mono (fun b hp => ⟨hp.1,hp.2.1,hp.2.2.1,hp.2.2.2.2.2⟩)
          have b8 : (l ++ [e0]).length ≤ 1000000:=by rw [hl2]; omega
          have b9 : B ≤ w10.heap.size:=by omega
          have b10 : used ≤ 1000000:=by omega
          have b11 : ∀ b,b = G + 1 + 1 → b < w10.heap.size:=fun b e => by omega
          have hbody:=dbody_any (X:=fun b => b = G + 1 + 1) all cl true Am ms.length cm at3 heads3 used (Cn.sC c) b1 hnl2 hall b5 b2 b3 b4 b10 A7 c7 w10 b6 b9 b8 b11 b7; clear b1 b2 b3 b4 b5 b6 b7 b8 b9 b10 b11; rw [hl2] at hbody
          replace hbody:=Hj hbody; go_wp2_with fail
          refine hbody.out.mono ?_
          rintro e w11 ⟨at',A',c',ys',rfl,q1,q2,q3,q4,q5,q6⟩
          clear s0 s1 s2 s3 s4 s5 s6 x0 x1 x2 x3 p0 p1 y4; have hI:=hL.out.bod (cl:=cl) ha hu hl hnw.out hs.out hi q1 q2; rw [g1.out,hhd3.out] at hI
          generalize (l ++ [e0]) ++ Cn.evs (Cn.pData (Cn.sC c)) (Cn.dEnd (Cn.sC c) cl) (Cn.pTr (Cn.sC c)) = l3 at hI q3 q4 q6 ⊢
          generalize used + (if Cn.dEnd (Cn.sC c) cl = true then 1 else 0) = used3 at hI ⊢
          generalize (!Cn.dEnd (Cn.sC c) cl && !decide ((Cn.sC c).kind = 4)) = pt3 at hI ⊢
          generalize decide ((Cn.sC c).kind = 4) = op3 at hI ⊢
          generalize Cn.pErr (Cn.sC c) = code3 at hI ⊢
          replace hI:=Hj hI; have hX6b:=Hj (hX6a.out.kp (fun h => h76.out _ h rfl) q5); have hz11:=q5.size; have r0 : w11.cell? ⟨G + 1 + 1,0,none⟩ = some (.int .i64 0):=hX6b.out.cell 0
          have r1 : w11.cell? ⟨G + 1 + 1,1,none⟩ = some (.int .i64 0):=hX6b.out.cell 1
          have r2 : w11.cell? ⟨G + 1 + 1,2,none⟩ = some (.int .i64 0):=hX6b.out.cell 2
          have r3 : w11.cell? ⟨G + 1 + 1,3,none⟩ = some (.slice none 0 0):=hX6b.out.cell 3
          have r4 : w11.cell? ⟨G + 1 + 1,4,none⟩ = some (.bool false):=hX6b.out.cell 4
          have r5 : w11.cell? ⟨G + 1 + 1,5,none⟩ = some (.bool false):=hX6b.out.cell 5
          have r6 : w11.cell? ⟨G + 1 + 1,6,none⟩ = some (.int .i64 0):=hX6b.out.cell 6
          have rf0:=hX6b.out.frozen 0; have rf1:=hX6b.out.frozen 1; have rf2:=hX6b.out.frozen 2; have rf3:=hX6b.out.frozen 3; have rf4:=hX6b.out.frozen 4; have rf5:=hX6b.out.frozen 5; have rf6:=hX6b.out.frozen 6; replace q3:=Hj q3; replace q4:=Hj q4; replace q5:=Hj q5; replace q6:=Hj q6; replace q2:=Hj q2; go_wp2_with fail
          refine ret_one rfl rfl rfl (t:=175) (g:=G + 1 + 1) (cs:=#[.int .i64 (at' : Int),.int .i64 (heads3 : Int),.int .i64 (used3 : Int),.slice A' l3.length c',.bool op3,.bool pt3,.int .i64 code3]) ?_ Tryz.underlying175 rfl (by kernel_rfl) ?_
          ·exact hX6b.out.seven (.int .i64 (at' : Int)) (.int .i64 (heads3 : Int)) (.int .i64 (used3 : Int)) (.slice A' l3.length c') (.bool op3) (.bool pt3) (.int .i64 code3)
          ·have hKf:=(Kp.refl (fun b => b = G + 1 + 1) w11).seven (g:=G + 1 + 1) (fun _ => rfl) (.int .i64 (at' : Int)) (.int .i64 (heads3 : Int)) (.int .i64 (used3 : Int)) (.slice A' l3.length c') (.bool op3) (.bool pt3) (.int .i64 code3)
           refine ⟨at',heads3,used3,l3,op3,pt3,code3,A',c',ys',rfl,hI.out,q3.out.kp (fun b e (h : b = G + 1 + 1) => ?_) hKf,(q4.out.kp hKf (fun b hp h => hp.2.2.2 h)).mono (fun b hp => ⟨hp.1,Nat.lt_of_lt_of_le hp.2.1 hKf.size,hp.2.2.1⟩),(hKw.out.next h7w.out q5.out).next (fun k hlt (h : k = G + 1 + 1) => by omega) hKf,.inl hlt3⟩
           rcases q6.out b e with h2 | h2
           ·exact h76.out b h2 h
           ·omega
end Go.Proofs.YtibcbaghgpemfaaGreatDoor
namespace Go.Proofs.YtibcbaghgpemfaaGreatDoor
open Go.RowKit Syn Hd Fr Ck
def msD (N : Nat) (w : World) (g : Nat) : Nat :=
 match w.cell? ⟨g,6,none⟩,w.cell? ⟨g,4,none⟩,w.cell? ⟨g,0,none⟩,w.cell? ⟨g,1,none⟩ with
 | some (.int _ c),some (.bool op),some (.int _ a),some (.int _ h) => if c ≠ 0 ∨ op = true ∨ (N : Int) ≤ a then 0 else 65 - h.toNat
 | _,_,_,_ => 0
theorem msD_eq {N : Nat} {w : World} {g : Nat} {t : TypeId} {at_ heads used : Nat} {v : Value} {op pt : Bool} {code : Int} (h : Blk w g t #[.int .i64 (at_ : Int),.int .i64 (heads : Int),.int .i64 (used : Int),v,.bool op,.bool pt,.int .i64 code]) :
  msD N w g = if code ≠ 0 ∨ op = true ∨ (N : Int) ≤ (at_ : Int) then 0 else 65 - heads:=by
 have c6 : w.cell? ⟨g,6,none⟩ = some (.int .i64 code):=h.cell 6
 have c4 : w.cell? ⟨g,4,none⟩ = some (.bool op):=h.cell 4
 have c0 : w.cell? ⟨g,0,none⟩ = some (.int .i64 (at_ : Int)):=h.cell 0
 have c1 : w.cell? ⟨g,1,none⟩ = some (.int .i64 (heads : Int)):=h.cell 1
 unfold msD
 rw [c6,c4,c0,c1]
 simp
def DLp (c0 : Cn.C) (all : List UInt8) (cl rs : Bool) (ms : List (List UInt8)) (G : Nat) (X : Array Value) (w wr : World) (at' heads' used' : Nat) (l' : List Cn.Ev) (op pt : Bool) (code : Int) (A' : Option Addr) (c' : Nat) : Prop :=
 ∃ ys' : List Value,Blk wr G 84 X ∧ Blk wr (G + 1) 175 #[.int .i64 (at' : Int),.int .i64 (heads' : Int),.int .i64 (used' : Int),.slice A' l'.length c',.bool op,.bool pt,.int .i64 code] ∧ Cn.DI c0 all cl rs ms at' heads' used' l' op pt code ∧
  Own wr (G + 2) 144 8 (.slice A' l'.length c') l'.length ys' ∧ Cn.DvsC wr (fun b => G + 2 ≤ b ∧ b < wr.heap.size ∧ (Value.slice A' l'.length c').ownBlock ≠ some b) l' ys' ∧ Below w.heap.size w wr ∧ G + 2 ≤ wr.heap.size
def DRd (c0 : Cn.C) (cl : Bool) (w : World) (e : Ending) (w' : World) : Prop :=
 ∃ o ys,e = .returned (.tuple #[o,.int .i64 (Cn.docE c0 cl)]) ∧ Own w' w.heap.size 144 8 o (Cn.docL c0 cl).length ys ∧ Cn.DvsC w' (fun b => w.heap.size ≤ b ∧ b < w'.heap.size ∧ o.ownBlock ≠ some b) (Cn.docL c0 cl) ys ∧ Below w.heap.size w w'
theorem DLp.fin {c0 : Cn.C} {all : List UInt8} {cl rs : Bool} {ms : List (List UInt8)} {G : Nat} {X : Array Value} {w wr w' : World} {at' heads' used' : Nat} {l' : List Cn.Ev} {op pt : Bool} {code : Int} {A' : Option Addr} {c' : Nat} (hG : w.heap.size = G)
  (h : DLp c0 all cl rs ms G X w wr at' heads' used' l' op pt code A' c') (hst : code ≠ 0 ∨ op = true ∨ at' = all.length) (hk : Kp (fun b => b = G + 1) wr w') {z : Int} (hz : z = if code = 0 ∧ pt = true ∧ cl = true then 21 else code) :
  DRd c0 cl w (.returned (.tuple #[.slice A' l'.length c',.int .i64 z])) w':=by
 obtain ⟨ys',-,-,hI,hO,hD,hB,h2⟩:=h
 obtain ⟨q1,q2⟩:=hI.fin hst
 refine ⟨_,ys',by rw [q2,hz],?_,?_,hB.trans (hk.toBelow hB.size (fun k e => by omega))⟩
 ·rw [q1]
  exact (hO.base (by omega)).kp (fun k e h => by have:=(World.ownsRow.lt hO k e).1; omega) hk
 ·rw [q1]
  exact (hD.kp hk (fun b hp e => by have:=hp.1; omega)).mono (fun b hp => ⟨by have:=hp.1; omega,Nat.lt_of_lt_of_le hp.2.1 hk.size,hp.2.2⟩)
set_option maxRecDepth 100000 in
set_option maxHeartbeats 16000000 in
theorem dread_any (all : List UInt8) (cl rs : Bool) (ms : List (List UInt8)) (Am : Option Addr) (cm : Nat) (w : World) (hm : Rd w 1 (.slice Am ms.length cm) ms.length (strs ms)) (hall : all.length ≤ 1000000) :
  Calls Tryz.prog 76 #[.agg #[.string (str all),.bool cl,.bool rs,.slice Am ms.length cm]] w (DRd (Cn.app (Cn.new rs ms) all) cl w):=by
 replace hm:=Hj hm; have hI0:=Cn.DI.start rs ms all cl; generalize Cn.app (Cn.new rs ms) all = c0 at *; replace hI0:=Hj hI0; have hsz : (str all).size = all.length:=str_size all
 go_enter Tryz.func76,Tryz.ntmps76
 go_upto_region 2 with (fail)
 have hX2:=(Blk.new w 84 #[.string (str all),.bool cl,.bool rs,.slice Am ms.length cm]).alloc (.cells #[.int .i64 0,.int .i64 0,.int .i64 0,.slice none 0 0,.bool false,.bool false,.int .i64 0] 175); have hS2:=Blk.new (w.alloc (.cells #[.string (str all),.bool cl,.bool rs,.slice Am ms.length cm] 84)) 175 #[.int .i64 0,.int .i64 0,.int .i64 0,.slice none 0 0,.bool false,.bool false,.int .i64 0]; have hB2:=((Below.refl w.heap.size w).alloc (Nat.le_refl _) (.cells #[.string (str all),.bool cl,.bool rs,.slice Am ms.length cm] 84)).alloc (by first | rfl | simp) (.cells #[.int .i64 0,.int .i64 0,.int .i64 0,.slice none 0 0,.bool false,.bool false,.int .i64 0] 175); have hz2 : ((w.alloc (.cells #[.string (str all),.bool cl,.bool rs,.slice Am ms.length cm] 84)).alloc (.cells #[.int .i64 0,.int .i64 0,.int .i64 0,.slice none 0 0,.bool false,.bool false,.int .i64 0] 175)).heap.size = w.heap.size + 1 + 1:=by simp only [alloc_size']
 rw [alloc_size'] at hS2
 generalize (w.alloc (.cells #[.string (str all),.bool cl,.bool rs,.slice Am ms.length cm] 84)).alloc (.cells #[.int .i64 0,.int .i64 0,.int .i64 0,.slice none 0 0,.bool false,.bool false,.int .i64 0] 175) = w2 at *; obtain ⟨G,hG⟩ : ∃ G,w.heap.size = G:=⟨_,rfl⟩
 rw [hG] at hX2 hS2 hz2 ⊢
 have hm2:=Hj (fun wr (hb : Below w.heap.size w wr) => hm.out.below hb); replace hX2:=Hj hX2; replace hS2:=Hj hS2; replace hB2:=Hj hB2; go_loopw [] (fun wr => ∃ (at' heads' used' : Nat) (l' : List Cn.Ev) (op pt : Bool) (code : Int) (A' : Option Addr) (c' : Nat),Hid (DLp c0 all cl rs ms G #[.string (str all),.bool cl,.bool rs,.slice Am ms.length cm] w wr at' heads' used' l' op pt code A' c')) (fun wr => msD all.length wr (G + 1))
 case atStart => exact ⟨0,0,0,[],false,false,0,none,0,Hj ⟨[],hX2.out,hS2.out,hI0.out,own_nil _ _ _ _,.nil,hB2.out,by omega⟩⟩
 case round =>
  obtain ⟨at',heads',used',l',op,pt,code,A',c',hD⟩:=hrel
  obtain ⟨ys',hX,hS,hI,hO,hDv,hB,hzr⟩:=id hD.out; have x0 : wr.cell? ⟨G,0,none⟩ = some (.string (str all)):=hX.cell 0
  have x1 : wr.cell? ⟨G,1,none⟩ = some (.bool cl):=hX.cell 1
  have s0 : wr.cell? ⟨G + 1,0,none⟩ = some (.int .i64 (at' : Int)):=hS.cell 0
  have s3 : wr.cell? ⟨G + 1,3,none⟩ = some (.slice A' l'.length c'):=hS.cell 3
  have s4 : wr.cell? ⟨G + 1,4,none⟩ = some (.bool op):=hS.cell 4
  have s5 : wr.cell? ⟨G + 1,5,none⟩ = some (.bool pt):=hS.cell 5
  have s6 : wr.cell? ⟨G + 1,6,none⟩ = some (.int .i64 code):=hS.cell 6
  have f6:=hS.frozen 6; have hmsd:=msD_eq (N:=all.length) hS; have hfin:=fun (hst : code ≠ 0 ∨ op = true ∨ at' = all.length) w' (hk : Kp (fun b => b = G + 1) wr w') (z : Int) hz => hD.out.fin hG hst hk (z:=z) hz
  have hle:=hI.le; replace hX:=Hj hX; replace hS:=Hj hS; replace hO:=Hj hO; replace hDv:=Hj hDv; replace hB:=Hj hB; replace hfin:=Hj hfin; replace hmsd:=Hj hmsd; by_cases h1 : code = 0
  ·subst h1
   cases op with
   | false =>
    by_cases h3 : at' < all.length
    ·obtain ⟨rfl,c,hL⟩:=hI.live rfl rfl h3
     have hms:=dmsg_any all cl rs ms Am cm at' heads' used' hL h3 hI.hd hI.us hI.ln hall A' c' wr (hm2.out wr hB.out) hO.out hzr hDv.out; have hhd:=hI.hd; replace hI:=Hj hI; replace hms:=Hj hms; replace hL:=Hj hL; have x2 : wr.cell? ⟨G,2,none⟩ = some (.bool rs):=hX.out.cell 2
     have x3 : wr.cell? ⟨G,3,none⟩ = some (.slice Am ms.length cm):=hX.out.cell 3
     have s1 : wr.cell? ⟨G + 1,1,none⟩ = some (.int .i64 (heads' : Int)):=hS.out.cell 1
     have s2 : wr.cell? ⟨G + 1,2,none⟩ = some (.int .i64 (used' : Int)):=hS.out.cell 2
     go_wp2_with fail
     refine hms.out.mono ?_
     rintro e w3 ⟨at2,heads2,used2,l2,op2,pt2,code2,A2,c2,ys2,rfl,hI2,hO2,hD2,hk2,hp2⟩
     have hlo : ∀ b,(Value.slice A' l'.length c').ownBlock = some b → G + 2 ≤ b:=fun b e => (World.ownsRow.lt hO.out b e).1
     have hX3:=Hj (hX.out.kp (fun e => by have:=hlo _ e; omega) hk2)
     have hS3:=Hj (hS.out.kp (fun e => by have:=hlo _ e; omega) hk2)
     have hz3:=hk2.size; have hB3:=hB.out.trans (hk2.toBelow hB.out.size (fun k e => by have:=hlo _ e; omega))
     clear x0 x1 x2 x3 s0 s1 s2 s3 s4 s5 s6 f6; have t0 : w3.cell? ⟨G + 1,0,none⟩ = some (.int .i64 (at' : Int)):=hS3.out.cell 0
     have g0:=hS3.out.frozen 0; have t1 : w3.cell? ⟨G + 1,1,none⟩ = some (.int .i64 (heads' : Int)):=hS3.out.cell 1
     have g1:=hS3.out.frozen 1; have t2 : w3.cell? ⟨G + 1,2,none⟩ = some (.int .i64 (used' : Int)):=hS3.out.cell 2
     have g2:=hS3.out.frozen 2; have t3 : w3.cell? ⟨G + 1,3,none⟩ = some (.slice A' l'.length c'):=hS3.out.cell 3
     have g3:=hS3.out.frozen 3; have t4 : w3.cell? ⟨G + 1,4,none⟩ = some (.bool false):=hS3.out.cell 4
     have g4:=hS3.out.frozen 4; have t5 : w3.cell? ⟨G + 1,5,none⟩ = some (.bool false):=hS3.out.cell 5
     have g5:=hS3.out.frozen 5; have t6 : w3.cell? ⟨G + 1,6,none⟩ = some (.int .i64 0):=hS3.out.cell 6
     have g6:=hS3.out.frozen 6; replace hI2:=Hj hI2; replace hO2:=Hj hO2; replace hD2:=Hj hD2; replace hk2:=Hj hk2; replace hp2:=Hj hp2; replace hB3:=Hj hB3; replace hlo:=Hj hlo; go_wp2; go_roundw
     case rel =>
      have hKf:=(Kp.refl (fun b => b = G + 1) w3).seven (g:=G + 1) (fun _ => rfl) (.int .i64 (at2 : Int)) (.int .i64 (heads2 : Int)) (.int .i64 (used2 : Int)) (.slice A2 l2.length c2) (.bool op2) (.bool pt2) (.int .i64 code2); exact ⟨at2,heads2,used2,l2,op2,pt2,code2,A2,c2,Hj ⟨ys2,hX3.out.kp (fun e : G = G + 1 => by omega) hKf,hS3.out.seven (.int .i64 (at2 : Int)) (.int .i64 (heads2 : Int)) (.int .i64 (used2 : Int)) (.slice A2 l2.length c2) (.bool op2) (.bool pt2) (.int .i64 code2),hI2.out,hO2.out.kp (fun b e (h : b = G + 1) => by have:=(World.ownsRow.lt hO2.out b e).1; omega) hKf,(hD2.out.kp hKf (fun b hp (h : b = G + 1) => by have:=hp.1; omega)).mono (fun b hp => ⟨hp.1,Nat.lt_of_lt_of_le hp.2.1 hKf.size,hp.2.2⟩),hB3.out.trans (hKf.toBelow hB3.out.size (fun k e => by omega)),Nat.le_trans (by omega) hKf.size⟩⟩
     case measure =>
      have e2 : msD all.length wr (G + 1) = 65 - heads':=by rw [hmsd.out,if_neg (by rintro (h | h | h); exact h rfl; cases h; omega)]
      rw [msD_eq (N:=all.length) (hS3.out.seven (.int .i64 (at2 : Int)) (.int .i64 (heads2 : Int)) (.int .i64 (used2 : Int)) (.slice A2 l2.length c2) (.bool op2) (.bool pt2) (.int .i64 code2)),e2]
      split
      ·omega
      ·rename_i hno
       have h64:=hI2.out.hd; rcases hp2.out with h | h | h
       ·omega
       ·exact absurd (.inl h) hno
       ·exact absurd (.inr (.inr (by omega))) hno
    ·have hat : at' = all.length:=by omega
     replace hI:=Hj hI; have hfx:=Hj (fun w' hk z hz => hfin.out (.inr (.inr hat)) w' hk z hz); cases pt <;> cases cl
     all_goals
      go_wp2; go_region
      all_goals
       go_wp2; go_ret2
       first
        | exact hfx.out _ ((Kp.refl (fun b => b = G + 1) wr).drew) _ (by first | rfl | simp)
        | exact hfx.out _ (Kp.refl (fun b => b = G + 1) wr) _ (by first | rfl | simp)
        | exact hfx.out _ (((Kp.refl (fun b => b = G + 1) wr).set_ (g:=G + 1) (fun _ => rfl) 6 (.int .i64 21)).drew) _ (by first | rfl | simp)
        | exact hfx.out _ ((Kp.refl (fun b => b = G + 1) wr).set_ (g:=G + 1) (fun _ => rfl) 6 (.int .i64 21)) _ (by first | rfl | simp)
   | true =>
    replace hI:=Hj hI; have hfx:=Hj (fun w' hk z hz => hfin.out (.inr (.inl rfl)) w' hk z hz); cases pt <;> cases cl
    all_goals
     go_wp2; go_region
     all_goals
      go_wp2; go_ret2
      first
       | exact hfx.out _ ((Kp.refl (fun b => b = G + 1) wr).drew) _ (by first | rfl | simp)
       | exact hfx.out _ (Kp.refl (fun b => b = G + 1) wr) _ (by first | rfl | simp)
       | exact hfx.out _ (((Kp.refl (fun b => b = G + 1) wr).set_ (g:=G + 1) (fun _ => rfl) 6 (.int .i64 21)).drew) _ (by first | rfl | simp)
       | exact hfx.out _ ((Kp.refl (fun b => b = G + 1) wr).set_ (g:=G + 1) (fun _ => rfl) 6 (.int .i64 21)) _ (by first | rfl | simp)
  ·have q : (code == 0) = false:=by simpa using h1
   replace hI:=Hj hI; have hfx:=Hj (fun w' hk z hz => hfin.out (.inl h1) w' hk z hz); cases pt <;> cases cl
   all_goals
    go_wp2; go_region
    all_goals
     go_wp2; go_ret2
     first
      | exact hfx.out _ ((Kp.refl (fun b => b = G + 1) wr).drew) _ (by rw [if_neg (fun h => h1 h.1)])
      | exact hfx.out _ (Kp.refl (fun b => b = G + 1) wr) _ (by rw [if_neg (fun h => h1 h.1)])
      | exact hfx.out _ (((Kp.refl (fun b => b = G + 1) wr).set_ (g:=G + 1) (fun _ => rfl) 6 (.int .i64 21)).drew) _ (by rw [if_neg (fun h => h1 h.1)])
      | exact hfx.out _ ((Kp.refl (fun b => b = G + 1) wr).set_ (g:=G + 1) (fun _ => rfl) 6 (.int .i64 21)) _ (by rw [if_neg (fun h => h1 h.1)])
end Go.Proofs.YtibcbaghgpemfaaGreatDoor
