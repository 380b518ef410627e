import Derived.Test.YtjffffpfejmoiaaGreatDoorGXf
import Derived.Test.YtjffffpfejmoiaaGreatDoorGDm
import Derived.Test.YtjffffpfejmoiaaGreatDoorGCe
namespace Go.Proofs.YtjffffpfejmoiaaGreatDoor
open Go.RowKit Syn Hd Fr Ck
namespace Cn
abbrev Bd:=Option (Nat × Nat × Nat)
def ahead : Bd → List Ev
 | none => []
 | some (k,n,_) => if k ≠ 3 ∧ n = 0 then [evEnd []] else []
theorem ahead_some (k n T : Nat) : ahead (some (k,n,T)) = if k ≠ 3 ∧ n = 0 then [evEnd []] else []:=rfl
def MtB (d : C) : Bd → Prop
 | none => d.body = false
 | some (k,n,T) => if k = 3 then d.body = true ∧ d.kind = 3 ∧ d.dec = fresh T 0 ∧ T ≤ 65536 else if n = 0 then d.body = false else d.body = true ∧ d.kind = k ∧ d.len = n ∧ k ≠ 4
structure Mt (d : C) (many : Nat) (s : Bd) : Prop where
 err : d.err = 0
 resp : d.resp = false
 closed : d.closed = false
 buf : d.buf = []
 many : d.many = many
 bd : MtB d s
theorem part_len {c : C} (h0 : c.err = 0) (hb : c.body = true) (hr : c.resp = false) (h3 : c.kind ≠ 3) (h4 : c.kind ≠ 4) (hl : c.buf.length ≤ c.len) :
  R c = ({ c with buf:=[],len:=c.len - c.buf.length,body:=!decide (c.len ≤ c.buf.length) },evs c.buf (decide (c.len ≤ c.buf.length)) []):=by
 have e1 : pDone c = decide (c.len ≤ c.buf.length):=by unfold pDone; rw [if_neg h4,if_neg h3]
 have e2 : pData c = c.buf:=by unfold pData; rw [if_neg h4,if_neg h3,List.take_of_length_le hl]
 have e3 : pTr c = []:=by unfold pTr; rw [if_neg h3]
 have f1 : pBuf c = []:=by unfold pBuf; rw [if_neg h4,if_neg h3]; exact List.drop_of_length_le hl
 have f2 : pLen c = c.len - c.buf.length:=by unfold pLen; rw [if_neg (by rintro (h | h); exact h3 h; exact h4 h)]
 have f3 : pDec c = c.dec:=by unfold pDec; rw [if_neg h3]
 have f4 : pErr c = c.err:=by unfold pErr; rw [if_neg h3,h0]
 have f5 : (if (pDone c && c.resp) = true then c.meth.tail else c.meth) = c.meth:=by rw [hr,Bool.and_false]; rfl
 have e4 : pC c = { c with buf:=[],len:=c.len - c.buf.length,body:=!decide (c.len ≤ c.buf.length) }:=by
  show C.mk c.resp c.closed (!pDone c) (if (pDone c && c.resp) = true then c.meth.tail else c.meth) c.many (pBuf c) c.kind (pLen c) (pDec c) (pErr c) = _
  rw [f1,f2,f3,f4,f5,e1]
 have e5 : pEv c = evs c.buf (decide (c.len ≤ c.buf.length)) []:=by unfold pEv; rw [e1,e2,e3]
 by_cases hd : c.len ≤ c.buf.length
 ·have n1 : ¬ (pC c).body = true:=by rw [e4]; show ¬ (!decide _) = true; rw [decide_eq_true hd]; decide
  rw [R_done h0 hb n1,R_nil (c:=pC c) (by rw [e4]; exact h0) n1 (by rw [e4]),List.append_nil,e4,e5]
 ·have n1 : (pC c).body = true:=by rw [e4]; show (!decide _) = true; rw [decide_eq_false hd]; rfl
  rw [R_body h0 hb n1,e4,e5]
theorem part_chk {c : C} {s : St} {D : List UInt8} (h0 : c.err = 0) (hb : c.body = true) (hr : c.resp = false) (h3 : c.kind = 3) (hw : wr c.dec c.buf = (s,D,c.buf.length)) (hs : s.bad = 0) :
  R c = ({ c with buf:=[],dec:=s,body:=!decide (s.place = 8) },evs D (decide (s.place = 8)) s.fields):=by
 have h4 : ¬ c.kind = 4:=by rw [h3]; decide
 have e1 : pDone c = decide (s.place = 8):=by unfold pDone; rw [if_neg h4,if_pos h3,hw]; exact decide_eq_decide.2 ⟨fun h => h.2,fun h => ⟨hs,h⟩⟩
 have e2 : pData c = D:=by unfold pData; rw [if_neg h4,if_pos h3,hw]
 have e3 : pTr c = s.fields:=by unfold pTr; rw [if_pos h3,hw]
 have f1 : pBuf c = []:=by unfold pBuf; rw [if_neg h4,if_pos h3,hw]; exact List.drop_of_length_le (Nat.le_refl _)
 have f2 : pLen c = c.len:=by unfold pLen; rw [if_pos (.inl h3)]
 have f3 : pDec c = s:=by unfold pDec; rw [if_pos h3,hw]
 have f4 : pErr c = c.err:=by unfold pErr; rw [if_pos h3,h0,hw]; show ((s.bad : Nat) : Int) = 0; rw [hs]; rfl
 have f5 : (if (pDone c && c.resp) = true then c.meth.tail else c.meth) = c.meth:=by rw [hr,Bool.and_false]; rfl
 have e4 : pC c = { c with buf:=[],dec:=s,body:=!decide (s.place = 8) }:=by
  show C.mk c.resp c.closed (!pDone c) (if (pDone c && c.resp) = true then c.meth.tail else c.meth) c.many (pBuf c) c.kind (pLen c) (pDec c) (pErr c) = _
  rw [f1,f2,f3,f4,f5,e1]
 have e5 : pEv c = evs D (decide (s.place = 8)) s.fields:=by unfold pEv; rw [e1,e2,e3]
 by_cases hd : s.place = 8
 ·have n1 : ¬ (pC c).body = true:=by rw [e4]; show ¬ (!decide _) = true; rw [decide_eq_true hd]; decide
  rw [R_done h0 hb n1,R_nil (c:=pC c) (by rw [e4]; exact h0) n1 (by rw [e4]),List.append_nil,e4,e5]
 ·have n1 : (pC c).body = true:=by rw [e4]; show (!decide _) = true; rw [decide_eq_false hd]; rfl
  rw [R_body h0 hb n1,e4,e5]
theorem wr_last {T : Nat} (hT : T ≤ 65536) {l : Flds} (ho : (okL l && fitL l) = true) : wr (fresh T 0) (lastB l) = (⟨8,1,0,1,T,0,(txt l).length + 2,[],l.map fun p => (nmV p.1,p.2),0⟩,[],(lastB l).length):=by
 rw [Bool.and_eq_true] at ho
 have hf:=ho.2; unfold fitL at hf
 simp only [Bool.and_eq_true,decide_eq_true_eq] at hf
 have h2:=wr_txt (T:=T) l [] 0 ho.1 (by omega) (by simpa using hf.2); rw [Nat.zero_add,List.nil_append] at h2
 unfold lastB
 rw [wr_append,wr_last0 hT]
 simp only
 rw [wr_append,h2]
 simp only
 rw [wr_fin (by omega)]
 simp only [List.append_nil,List.length_append,List.length_cons,List.length_nil]
theorem wqB_ne {m t : List UInt8} {f : Flds} (hw : wqE m t f = 0) : wqB m t f ≠ []:=fun e => by
 obtain ⟨r1,-,-,-,r5⟩:=req_back [] hw
 rw [List.append_nil] at r1 r5
 have hl : lnE (wqB m t f) = 0:=rqE_ok r1
 obtain ⟨n,h1,h2,h3,-⟩:=lnE_ok hl
 rw [e] at h3
 have : n ≤ 0:=h3
 omega
theorem step_head {d : C} {many : Nat} {m t : List UInt8} {f : Flds} {k n : Nat} (h : Mt d many none) (hw : wqE m t f = 0) (hf : frame 1 (wqL f) = ((k,n),0)) (h4 : k ≠ 4) (hm : many < 64) :
  (write d (wqB m t f)).2 = evReq m t (wqL f) :: ahead (some (k,n,0)) ∧ Mt (write d (wqB m t f)).1 (many + 1) (some (k,n,0)):=by
 obtain ⟨h0,hr,hc,hb,hmn,hbd⟩:=h
 have hbd' : d.body = false:=hbd
 obtain ⟨r1,r2,r3,r4,r5⟩:=req_back [] hw
 rw [List.append_nil] at r1 r2 r3 r4 r5
 have hne:=wqB_ne hw; rw [write_open h0 hc hne]
 obtain ⟨c,hcd⟩ : ∃ c,app d (wqB m t f) = c:=⟨_,rfl⟩
 have c0 : c.err = 0:=by rw [← hcd]; exact h0
 have c1 : c.resp = false:=by rw [← hcd]; exact hr
 have c2 : c.closed = false:=by rw [← hcd]; exact hc
 have c3 : c.buf = wqB m t f:=by rw [← hcd]; show d.buf ++ _ = _; rw [hb]; rfl
 have c4 : c.many = many:=by rw [← hcd]; exact hmn
 have c5 : ¬ c.body = true:=by rw [← hcd]; show ¬ d.body = true; rw [hbd']; decide
 rw [hcd]
 have hE0 : hE c = 0:=by unfold hE; rw [if_neg (by rw [c1]; decide),c3]; exact r1
 have hFr0 : hFr c = ((k,n),0):=by unfold hFr; rw [if_neg (by rw [c1]; decide),c3,r4]; exact hf
 have hno : ¬ none_ c:=fun h => by have:=h.1; rw [c1] at this; cases this
 have hs : sE c = 0:=by
  unfold sE
  rw [if_neg hno,if_neg (fun h => h hE0),if_neg (by rw [c4]; omega),hFr0]
 have hwt : ¬ wait c:=fun h => by have:=h.2; rw [hE0] at this; cases this
 have hev : hEv c = evReq m t (wqL f):=by unfold hEv; rw [if_neg (by rw [c1]; decide),c3,r2,r3,r4]
 rw [R_head c0 c5 (by rw [c3]; exact hne) hwt hs,hev]
 obtain ⟨g,hg⟩ : ∃ g,sC c = g:=⟨_,rfl⟩
 have g0 : g.err = 0:=by rw [← hg]; exact c0
 have g1 : g.resp = false:=by rw [← hg]; exact c1
 have g2 : g.closed = false:=by rw [← hg]; exact c2
 have g3 : g.buf = []:=by rw [← hg]; show dr c.buf = []; unfold dr; rw [c3,r5]; exact List.drop_of_length_le (Nat.le_refl _)
 have g4 : g.many = many + 1:=by rw [← hg]; show c.many + 1 = _; rw [c4]
 have g5 : g.body = true:=by rw [← hg]; show (!inf c) = true; unfold inf; rw [c1]; rfl
 have g6 : g.kind = k:=by rw [← hg]; show (hFr c).1.1 = k; rw [hFr0]
 have g7 : g.len = n:=by rw [← hg]; show (hFr c).1.2 = n; rw [hFr0]
 have g8 : g.dec = zero:=by rw [← hg]; rfl
 rw [hg]
 by_cases h3 : k = 3
 ·have hwz : wr g.dec g.buf = (zero,[],g.buf.length):=by rw [g8,g3]; rfl
  rw [part_chk g0 g5 g1 (g6.trans h3) hwz rfl]
  refine ⟨?_,g0,g1,g2,rfl,g4,?_⟩
  ·rw [ahead_some]; rw [if_neg (fun h => h.1 h3)]; rfl
  ·show if k = 3 then _ else _
   rw [if_pos h3]
   exact ⟨rfl,g6.trans h3,rfl,Nat.zero_le _⟩
 ·rw [part_len g0 g5 g1 (by rw [g6]; exact h3) (by rw [g6]; exact h4) (by rw [g3]; exact Nat.zero_le _)]
  refine ⟨?_,g0,g1,g2,rfl,g4,?_⟩
  ·show evReq m t (wqL f) :: evs g.buf (decide (g.len ≤ g.buf.length)) [] = _
   rw [g3,g7]
   rw [ahead_some]; unfold evs
   rw [if_pos rfl]
   by_cases hn : n = 0
   ·rw [if_pos (show k ≠ 3 ∧ n = 0 from ⟨h3,hn⟩),if_pos (by rw [decide_eq_true_eq]; show n ≤ 0; omega)]; rfl
   ·rw [if_neg (show ¬ (k ≠ 3 ∧ n = 0) from fun h => hn h.2),if_neg (by rw [decide_eq_true_eq]; show ¬ n ≤ 0; omega)]; rfl
  ·show if k = 3 then _ else if n = 0 then (!decide (g.len ≤ g.buf.length)) = false else (!decide (g.len ≤ g.buf.length)) = true ∧ g.kind = k ∧ g.len - g.buf.length = n ∧ k ≠ 4
   rw [if_neg h3,g3,g7]
   by_cases hn : n = 0
   ·rw [if_pos hn,decide_eq_true (show n ≤ ([] : List UInt8).length by rw [hn]; exact Nat.le_refl _)]; rfl
   ·rw [if_neg hn,decide_eq_false (show ¬ n ≤ ([] : List UInt8).length by show ¬ n ≤ 0; omega)]
    exact ⟨rfl,g6,Nat.sub_zero n,h4⟩
theorem evs_one {b : List UInt8} (h : b ≠ []) (dn : Bool) (tr : Flds) : evs b dn tr = evData b :: (if dn = true then [evEnd tr] else []):=by unfold evs; rw [if_neg h]; rfl
theorem step_data {d : C} {many k n T : Nat} {b : List UInt8} (h : Mt d many (some (k,n,T))) (h3 : k ≠ 3) (hb : b ≠ []) (hl : b.length ≤ n) :
  (write d b).2 = evData b :: ahead (some (k,n - b.length,T)) ∧ Mt (write d b).1 many (some (k,n - b.length,T)):=by
 obtain ⟨h0,hr,hc,hbf,hmn,hbd⟩:=h
 have hp:=List.length_pos_iff.2 hb; have hbd' : if k = 3 then d.body = true ∧ d.kind = 3 ∧ d.dec = fresh T 0 ∧ T ≤ 65536 else if n = 0 then d.body = false else d.body = true ∧ d.kind = k ∧ d.len = n ∧ k ≠ 4:=hbd
 rw [if_neg h3,if_neg (by omega)] at hbd'
 obtain ⟨b1,b2,b3,b4⟩:=hbd'
 have hap : (app d b).buf = b:=by show d.buf ++ b = b; rw [hbf]; rfl
 have hln : (app d b).len = n:=b3
 rw [write_open h0 hc hb,part_len (c:=app d b) h0 b1 hr (by show d.kind ≠ 3; rw [b2]; exact h3) (by show d.kind ≠ 4; rw [b2]; exact b4) (by rw [hap,hln]; exact hl)]
 rw [hap,hln]
 refine ⟨?_,h0,hr,hc,rfl,hmn,?_⟩
 ·show evs b (decide (n ≤ b.length)) [] = _
  rw [evs_one hb]
  rw [ahead_some]
  by_cases hn : n - b.length = 0
  ·rw [decide_eq_true (show n ≤ b.length by omega),if_pos rfl,if_pos (show k ≠ 3 ∧ n - b.length = 0 from ⟨h3,hn⟩)]
  ·rw [decide_eq_false (show ¬ n ≤ b.length by omega),if_neg (by decide),if_neg (show ¬ (k ≠ 3 ∧ n - b.length = 0) from fun h => hn h.2)]
 ·show if k = 3 then _ else if n - b.length = 0 then (!decide (n ≤ b.length)) = false else (!decide (n ≤ b.length)) = true ∧ d.kind = k ∧ n - b.length = n - b.length ∧ k ≠ 4
  rw [if_neg h3]
  by_cases hn : n - b.length = 0
  ·rw [if_pos hn,decide_eq_true (by omega)]; rfl
  ·rw [if_neg hn,decide_eq_false (by omega)]
   exact ⟨rfl,b2,rfl,b4⟩
theorem chk_ne {b : List UInt8} (h : b ≠ []) : Ck.chk b ≠ []:=fun e => by
 unfold Ck.chk at e
 rw [if_neg h] at e
 have:=congrArg List.length e
 simp at this
theorem step_chk {d : C} {many n T : Nat} {b : List UInt8} (h : Mt d many (some (3,n,T))) (hb : b ≠ []) (hT : T + b.length ≤ 65536) :
  (write d (Ck.chk b)).2 = [evData b] ∧ Mt (write d (Ck.chk b)).1 many (some (3,n,T + b.length)):=by
 obtain ⟨h0,hr,hc,hbf,hmn,hbd⟩:=h
 obtain ⟨b1,b2,b3,b4⟩ : d.body = true ∧ d.kind = 3 ∧ d.dec = fresh T 0 ∧ T ≤ 65536:=hbd
 have hap : (app d (Ck.chk b)).buf = Ck.chk b:=by show d.buf ++ _ = _; rw [hbf]; rfl
 have hw : wr (app d (Ck.chk b)).dec (app d (Ck.chk b)).buf = (fresh (T + b.length) 0,b,(app d (Ck.chk b)).buf.length):=by
  rw [hap]
  show wr d.dec _ = _
  rw [b3]
  exact wr_chunk hT (List.length_pos_iff.2 hb)
 rw [write_open h0 hc (chk_ne hb),part_chk (c:=app d (Ck.chk b)) h0 b1 hr b2 hw rfl]
 refine ⟨?_,h0,hr,hc,rfl,hmn,?_⟩
 ·show evs b (decide ((0 : Nat) = 8)) [] = _
  rw [evs_one hb]; rfl
 ·exact ⟨rfl,b2,rfl,hT⟩
theorem step_last {d : C} {many n T : Nat} {l : Flds} (h : Mt d many (some (3,n,T))) (ho : (okL l && fitL l) = true) :
  (write d (lastB l)).2 = [evEnd (l.map fun p => (nmV p.1,p.2))] ∧ Mt (write d (lastB l)).1 many none:=by
 obtain ⟨h0,hr,hc,hbf,hmn,hbd⟩:=h
 obtain ⟨b1,b2,b3,b4⟩ : d.body = true ∧ d.kind = 3 ∧ d.dec = fresh T 0 ∧ T ≤ 65536:=hbd
 have hap : (app d (lastB l)).buf = lastB l:=by show d.buf ++ _ = _; rw [hbf]; rfl
 have hw : wr (app d (lastB l)).dec (app d (lastB l)).buf = (⟨8,1,0,1,T,0,(txt l).length + 2,[],l.map fun p => (nmV p.1,p.2),0⟩,[],(app d (lastB l)).buf.length):=by
  rw [hap]
  show wr d.dec _ = _
  rw [b3]
  exact wr_last b4 ho
 rw [write_open h0 hc (fun e => by cases e),part_chk (c:=app d (lastB l)) h0 b1 hr b2 hw rfl]
 exact ⟨rfl,h0,hr,hc,rfl,hmn,rfl⟩
inductive Pth : Nat → Bd → List Ev → List (List UInt8) → Nat → Bd → Prop
 | nil {many : Nat} {s : Bd} : Pth many s [] [] many s
 | head {many many' k n : Nat} {s' : Bd} {m t : List UInt8} {f : Flds} {l : List Ev} {ps : List (List UInt8)} : wqE m t f = 0 → frame 1 (wqL f) = ((k,n),0) → k ≠ 4 → many < 64 → Pth (many + 1) (some (k,n,0)) l ps many' s' → Pth many none (evReq m t (wqL f) :: l) (wqB m t f :: ps) many' s'
 | data {many many' k n T : Nat} {s' : Bd} {b : List UInt8} {l : List Ev} {ps : List (List UInt8)} : k ≠ 3 → b ≠ [] → b.length ≤ n → Pth many (some (k,n - b.length,T)) l ps many' s' → Pth many (some (k,n,T)) (evData b :: l) (b :: ps) many' s'
 | chk {many many' n T : Nat} {s' : Bd} {b : List UInt8} {l : List Ev} {ps : List (List UInt8)} : b ≠ [] → T + b.length ≤ 65536 → Pth many (some (3,n,T + b.length)) l ps many' s' → Pth many (some (3,n,T)) (evData b :: l) (Ck.chk b :: ps) many' s'
 | endL {many many' k T : Nat} {s' : Bd} {l : List Ev} {ps : List (List UInt8)} : k ≠ 3 → Pth many none l ps many' s' → Pth many (some (k,0,T)) (evEnd [] :: l) ps many' s'
 | endC {many many' n T : Nat} {s' : Bd} {tr : Flds} {l : List Ev} {ps : List (List UInt8)} : (okL tr && fitL tr) = true → Pth many none l ps many' s' → Pth many (some (3,n,T)) (evEnd (tr.map fun p => (nmV p.1,p.2)) :: l) (lastB tr :: ps) many' s'
theorem Pth.feed {many many' : Nat} {s s' : Bd} {l : List Ev} {ps : List (List UInt8)} (h : Pth many s l ps many' s') : ∀ {d : C},Mt d many s → ahead s ++ (Cn.feed d ps).2 = l ++ ahead s' ∧ Mt (Cn.feed d ps).1 many' s':=by
 induction h with
 | nil => intro d hd; exact ⟨by show _ ++ [] = [] ++ _; simp,hd⟩
 | @head many many' k n s' m t f l ps h1 h2 h3 h4 _ ih =>
  intro d hd; obtain ⟨e1,e2⟩:=step_head hd h1 h2 h3 h4
  obtain ⟨i1,i2⟩:=ih e2
  refine ⟨?_,i2⟩
  show [] ++ ((write d (wqB m t f)).2 ++ (Cn.feed (write d (wqB m t f)).1 ps).2) = _
  rw [e1,List.nil_append,List.cons_append,i1]; rfl
 | @data many many' k n T s' b l ps h1 h2 h3 _ ih =>
  intro d hd; obtain ⟨e1,e2⟩:=step_data hd h1 h2 h3
  obtain ⟨i1,i2⟩:=ih e2
  refine ⟨?_,i2⟩
  have h0 : ahead (some (k,n,T)) = []:=by
   have:=List.length_pos_iff.2 h2
   rw [ahead_some]; rw [if_neg (fun h => by have:=h.2; omega)]
  show ahead _ ++ ((write d b).2 ++ (Cn.feed (write d b).1 ps).2) = _
  rw [e1,h0,List.nil_append,List.cons_append,i1]; rfl
 | @chk many many' n T s' b l ps h1 h2 _ ih =>
  intro d hd; obtain ⟨e1,e2⟩:=step_chk hd h1 h2
  obtain ⟨i1,i2⟩:=ih e2
  refine ⟨?_,i2⟩
  have h0 : ∀ n T,ahead (some (3,n,T)) = []:=fun n T => by rw [ahead_some]; rw [if_neg (fun h => h.1 rfl)]
  rw [h0,List.nil_append] at i1
  show ahead _ ++ ((write d (Ck.chk b)).2 ++ (Cn.feed (write d (Ck.chk b)).1 ps).2) = _
  rw [e1,h0,i1]; rfl
 | @endL many many' k T s' l ps h1 _ ih =>
  intro d hd; obtain ⟨a1,a2,a3,a4,a5,a6⟩:=hd
  have a6' : if k = 3 then d.body = true ∧ d.kind = 3 ∧ d.dec = fresh T 0 ∧ T ≤ 65536 else if 0 = 0 then d.body = false else d.body = true ∧ d.kind = k ∧ d.len = 0 ∧ k ≠ 4:=a6
  rw [if_neg h1,if_pos rfl] at a6'
  obtain ⟨i1,i2⟩:=ih ⟨a1,a2,a3,a4,a5,a6'⟩
  refine ⟨?_,i2⟩
  have h0 : ahead (some (k,0,T)) = [evEnd []]:=by rw [ahead_some]; rw [if_pos ⟨h1,rfl⟩]
  have i1' : (Cn.feed d ps).2 = l ++ ahead s':=i1
  rw [h0,i1']; rfl
 | @endC many many' n T s' tr l ps h1 _ ih =>
  intro d hd; obtain ⟨e1,e2⟩:=step_last hd h1
  obtain ⟨i1,i2⟩:=ih e2
  refine ⟨?_,i2⟩
  have h0 : ahead (some (3,n,T)) = []:=by rw [ahead_some]; rw [if_neg (fun h => h.1 rfl)]
  have i1' : (Cn.feed (write d (lastB tr)).1 ps).2 = l ++ ahead s':=i1
  show ahead _ ++ ((write d (lastB tr)).2 ++ (Cn.feed (write d (lastB tr)).1 ps).2) = _
  rw [e1,h0,i1']; rfl
theorem new_mt : Mt (new false []) 0 none:=⟨rfl,rfl,rfl,rfl,rfl,rfl⟩
theorem Pth.write {many' : Nat} {s' : Bd} {l : List Ev} {ps : List (List UInt8)} (h : Pth 0 none l ps many' s') :
  (Cn.write (new false []) ps.flatten).1.err = 0 ∧ J (Cn.write (new false []) ps.flatten).2 (l ++ ahead s'):=by
 obtain ⟨i1,i2⟩:=h.feed new_mt
 have i1' : (Cn.feed (new false []) ps).2 = l ++ ahead s':=i1
 have h1:=Fed.feed (c0:=new false []) rfl ps (new_fed false []); have h2:=Fed.feed (c0:=new false []) rfl [ps.flatten] (new_fed false []); rw [feed_one] at h2
 simp only [List.nil_append,List.flatten_cons,List.flatten_nil,List.append_nil] at h1 h2
 refine ⟨h2.err.symm.trans (h1.err.trans i2.err),?_⟩
 rw [← i1']
 exact h2.ev.symm.trans h1.ev
end Cn
end Go.Proofs.YtjffffpfejmoiaaGreatDoor
namespace Go.Proofs.YtjffffpfejmoiaaGreatDoor
open Go.RowKit Syn Hd Fr Ck
namespace Cn
structure FS where
 op : Bool
 cl : Bool
 k : Nat
 n : Nat
 out : List UInt8
def fs0 : FS:=⟨false,false,0,0,[]⟩
def fev (s : FS) (e : Ev) : Int × FS :=
 if s.cl = true ∨ s.op = decide (e.kind = 1) ∨ e.kind < 1 ∨ 3 < e.kind then (6,s)
 else if e.kind = 1 then
  (if wqE e.m e.t e.rf ≠ 0 then (wqE e.m e.t e.rf,s)
  else if (frame 1 e.rf).2 ≠ 0 then ((frame 1 e.rf).2,s)
  else (0,⟨true,s.cl,(frame 1 e.rf).1.1,(frame 1 e.rf).1.2,s.out ++ wqB e.m e.t e.rf⟩))
 else if e.kind = 2 then
  (if s.k = 3 then (0,⟨s.op,s.cl,s.k,s.n,s.out ++ Ck.chk e.data⟩)
  else if s.k = 1 ∧ e.data ≠ [] then (6,s)
  else if s.k = 2 ∧ s.n < e.data.length then (30,s)
  else (0,⟨s.op,s.cl,s.k,(if s.k = 2 then s.n - e.data.length else s.n),s.out ++ e.data⟩))
 else if s.k = 3 then (if (okL e.tr && fitL e.tr) = true then (0,⟨false,s.cl,s.k,s.n,s.out ++ lastB e.tr⟩) else (34,s))
 else if s.k = 2 ∧ 0 < s.n then (30,s)
 else if e.tr ≠ [] then (34,s)
 else (0,⟨false,decide (s.k = 4),s.k,s.n,s.out⟩)
theorem fev_head {s : FS} {e : Ev} (h : e.kind = 1) (hc : s.cl = false) (ho : s.op = false) : fev s e = (if wqE e.m e.t e.rf ≠ 0 then (wqE e.m e.t e.rf,s)
  else if (frame 1 e.rf).2 ≠ 0 then ((frame 1 e.rf).2,s)
  else (0,⟨true,s.cl,(frame 1 e.rf).1.1,(frame 1 e.rf).1.2,s.out ++ wqB e.m e.t e.rf⟩)):=by
 unfold fev
 rw [h,ho,hc,if_neg (by decide),if_pos rfl]
theorem fev_data {s : FS} {e : Ev} (h : e.kind = 2) (hc : s.cl = false) (ho : s.op = true) : fev s e = (if s.k = 3 then (0,⟨s.op,s.cl,s.k,s.n,s.out ++ Ck.chk e.data⟩)
  else if s.k = 1 ∧ e.data ≠ [] then (6,s)
  else if s.k = 2 ∧ s.n < e.data.length then (30,s)
  else (0,⟨s.op,s.cl,s.k,(if s.k = 2 then s.n - e.data.length else s.n),s.out ++ e.data⟩)):=by
 unfold fev
 rw [h,ho,hc,if_neg (by decide),if_neg (by decide),if_pos rfl]
theorem fev_end {s : FS} {e : Ev} (h : e.kind = 3) (hc : s.cl = false) (ho : s.op = true) : fev s e = (if s.k = 3 then (if (okL e.tr && fitL e.tr) = true then (0,⟨false,s.cl,s.k,s.n,s.out ++ lastB e.tr⟩) else (34,s))
 else if s.k = 2 ∧ 0 < s.n then (30,s)
 else if e.tr ≠ [] then (34,s)
 else (0,⟨false,decide (s.k = 4),s.k,s.n,s.out⟩)):=by
 unfold fev
 rw [h,ho,hc,if_neg (by decide),if_neg (by decide),if_neg (by decide)]
theorem fev_off {s : FS} {e : Ev} (ho : s.op = decide (e.kind = 1)) : fev s e = (6,s):=if_pos (.inr (.inl ho))
def fmt : FS → List Ev → Int × FS
 | s,[] => (0,s)
 | s,e :: l => if (fev s e).1 ≠ 0 then ((fev s e).1,s) else fmt (fev s e).2 l
theorem fmt_cons {s s' : FS} {e : Ev} (l : List Ev) (h : fev s e = (0,s')) : fmt s (e :: l) = fmt s' l:=by
 show (if (fev s e).1 ≠ 0 then _ else _) = _
 rw [h,if_neg (fun h => h rfl)]
theorem fmt_bad {s s' : FS} {e : Ev} {x : Int} (l : List Ev) (h : fev s e = (x,s')) (hx : x ≠ 0) : (fmt s (e :: l)).1 = x:=by
 show (if (fev s e).1 ≠ 0 then ((fev s e).1,s) else _).1 = _
 rw [h,if_pos hx]
inductive G : Nat → Bd → List Ev → Nat → Bd → Prop
 | nil {many : Nat} {s : Bd} : G many s [] many s
 | head {many many' k n : Nat} {s' : Bd} {m t : List UInt8} {f : Flds} {l : List Ev} : (wqE m t f = 0 ∨ wqE m t f = 5) → wqL f = f → frame 1 f = ((k,n),0) → k ≠ 4 → many < 64 → G (many + 1) (some (k,n,0)) l many' s' → G many none (evReq m t f :: l) many' s'
 | data {many many' n T : Nat} {s' : Bd} {b : List UInt8} {l : List Ev} : b ≠ [] → b.length ≤ n → G many (some (2,n - b.length,T)) l many' s' → G many (some (2,n,T)) (evData b :: l) many' s'
 | chk {many many' n T : Nat} {s' : Bd} {b : List UInt8} {l : List Ev} : b ≠ [] → T + b.length ≤ 65536 → G many (some (3,n,T + b.length)) l many' s' → G many (some (3,n,T)) (evData b :: l) many' s'
 | endL {many many' k T : Nat} {s' : Bd} {l : List Ev} : k ≠ 3 → k ≠ 4 → G many none l many' s' → G many (some (k,0,T)) (evEnd [] :: l) many' s'
 | endC {many many' n T : Nat} {s' : Bd} {tr : Flds} {l : List Ev} : (tr.map fun p => (nmV p.1,p.2)) = tr → G many none l many' s' → G many (some (3,n,T)) (evEnd tr :: l) many' s'
theorem G.app {a b c : Nat} {s s' s'' : Bd} {l m : List Ev} (h : G a s l b s') (h2 : G b s' m c s'') : G a s (l ++ m) c s'':=by
 induction h with
 | nil => exact h2
 | head h1 h3 h4 h5 h6 _ ih => exact .head h1 h3 h4 h5 h6 (ih h2)
 | data h1 h3 _ ih => exact .data h1 h3 (ih h2)
 | chk h1 h3 _ ih => exact .chk h1 h3 (ih h2)
 | endL h1 h3 _ ih => exact .endL h1 h3 (ih h2)
 | endC h1 _ ih => exact .endC h1 (ih h2)
def Ms (s : FS) : Bd → Prop
 | none => s.cl = false ∧ s.op = false
 | some (k,n,_) => s.cl = false ∧ s.op = true ∧ s.k = k ∧ s.n = n
theorem G.fmt {many many' : Nat} {b b' : Bd} {l : List Ev} (h : G many b l many' b') : ∀ {s : FS},Ms s b →
  ((Cn.fmt s l).1 = 5 ∨ (Cn.fmt s l).1 = 34) ∨ ((Cn.fmt s l).1 = 0 ∧ ∃ ps,Pth many b l ps many' b' ∧ (Cn.fmt s l).2.out = s.out ++ ps.flatten):=by
 induction h with
 | nil => intro s hs; exact .inr ⟨rfl,[],.nil,by simp [Cn.fmt]⟩
 | @head many many' k n s' m t f l h1 h2 h3 h4 h5 _ ih =>
  intro s ⟨a1,a2⟩
  rcases h1 with h1 | h1
  ·have hf : fev s (evReq m t f) = (0,⟨true,s.cl,k,n,s.out ++ wqB m t f⟩):=by
    rw [fev_head rfl a1 a2]
    show (if wqE m t f ≠ 0 then _ else if (frame 1 f).2 ≠ 0 then _ else (0,(⟨true,s.cl,(frame 1 f).1.1,(frame 1 f).1.2,s.out ++ wqB m t f⟩ : FS))) = _
    rw [if_neg (fun h => h h1),h3,if_neg (fun h => h rfl)]
   rw [fmt_cons l hf]
   rcases ih (s:=⟨true,s.cl,k,n,s.out ++ wqB m t f⟩) ⟨a1,rfl,rfl,rfl⟩ with h | ⟨h,ps,hp,ho⟩
   ·exact .inl h
   ·refine .inr ⟨h,wqB m t f :: ps,?_,by rw [ho]; simp⟩
    have:=Pth.head (m:=m) (t:=t) (f:=f) h1 (by rw [h2]; exact h3) h4 h5 hp
    rwa [h2] at this
  ·refine .inl (.inl (fmt_bad l (s':=s) ?_ (by decide)))
   rw [fev_head rfl a1 a2]
   show (if wqE m t f ≠ 0 then (wqE m t f,s) else _) = _
   rw [if_pos (by rw [h1]; decide),h1]
 | @data many many' n T s' b l h1 h2 _ ih =>
  intro s ⟨a1,a2,a3,a4⟩
  have hf : fev s (evData b) = (0,⟨true,s.cl,2,n - b.length,s.out ++ b⟩):=by
   rw [fev_data rfl a1 a2]
   show (if s.k = 3 then _ else if s.k = 1 ∧ b ≠ [] then _ else if s.k = 2 ∧ s.n < b.length then _ else (0,(⟨s.op,s.cl,s.k,(if s.k = 2 then s.n - b.length else s.n),s.out ++ b⟩ : FS))) = _
   rw [a3,a4,a2,if_neg (by decide),if_neg (by rintro ⟨h,-⟩; cases h),if_neg (by rintro ⟨-,h⟩; omega),if_pos rfl]
  rw [fmt_cons l hf]
  rcases ih (s:=⟨true,s.cl,2,n - b.length,s.out ++ b⟩) ⟨a1,rfl,rfl,rfl⟩ with h | ⟨h,ps,hp,ho⟩
  ·exact .inl h
  ·exact .inr ⟨h,b :: ps,.data (by decide) h1 h2 hp,by rw [ho]; simp⟩
 | @chk many many' n T s' b l h1 h2 _ ih =>
  intro s ⟨a1,a2,a3,a4⟩
  have hf : fev s (evData b) = (0,⟨true,s.cl,3,n,s.out ++ Ck.chk b⟩):=by
   rw [fev_data rfl a1 a2]
   show (if s.k = 3 then (0,(⟨s.op,s.cl,s.k,s.n,s.out ++ Ck.chk b⟩ : FS)) else _) = _
   rw [if_pos a3,a3,a4,a2]
  rw [fmt_cons l hf]
  rcases ih (s:=⟨true,s.cl,3,n,s.out ++ Ck.chk b⟩) ⟨a1,rfl,rfl,rfl⟩ with h | ⟨h,ps,hp,ho⟩
  ·exact .inl h
  ·exact .inr ⟨h,Ck.chk b :: ps,.chk h1 h2 hp,by rw [ho]; simp⟩
 | @endL many many' k T s' l h1 h2 _ ih =>
  intro s ⟨a1,a2,a3,a4⟩
  have hf : fev s (evEnd []) = (0,⟨false,false,k,0,s.out⟩):=by
   rw [fev_end rfl a1 a2]
   show (if s.k = 3 then _ else if s.k = 2 ∧ 0 < s.n then _ else if ([] : Flds) ≠ [] then _ else (0,(⟨false,decide (s.k = 4),s.k,s.n,s.out⟩ : FS))) = _
   rw [a3,a4,if_neg h1,if_neg (by rintro ⟨-,h⟩; omega),if_neg (fun h => h rfl),decide_eq_false h2]
  rw [fmt_cons l hf]
  rcases ih (s:=⟨false,false,k,0,s.out⟩) ⟨rfl,rfl⟩ with h | ⟨h,ps,hp,ho⟩
  ·exact .inl h
  ·exact .inr ⟨h,ps,.endL h1 hp,ho⟩
 | @endC many many' n T s' tr l h1 _ ih =>
  intro s ⟨a1,a2,a3,a4⟩
  by_cases ho : (okL tr && fitL tr) = true
  ·have hf : fev s (evEnd tr) = (0,⟨false,s.cl,s.k,s.n,s.out ++ lastB tr⟩):=by
    rw [fev_end rfl a1 a2,if_pos a3]
    exact if_pos ho
   rw [fmt_cons l hf]
   rcases ih (s:=⟨false,s.cl,s.k,s.n,s.out ++ lastB tr⟩) ⟨a1,rfl⟩ with h | ⟨h,ps,hp,ho2⟩
   ·exact .inl h
   ·refine .inr ⟨h,lastB tr :: ps,?_,by rw [ho2]; simp⟩
    have:=Pth.endC (n:=n) (T:=T) ho hp
    rwa [h1] at this
  ·refine .inl (.inr (fmt_bad l (s':=s) ?_ (by decide)))
   rw [fev_end rfl a1 a2,if_pos a3]
   exact if_neg ho
theorem step_total (s : St) (c : UInt8) : (Ck.step s c).total = s.total + (if s.place = 3 then 1 else 0):=by
 unfold Ck.step
 by_cases h1 : s.place ≤ 1
 ·rw [if_pos h1,if_neg (by omega)]
  unfold sized
  repeat' split
  all_goals rfl
 ·rw [if_neg h1]
  by_cases h2 : s.place = 2
  ·rw [if_pos h2]
   have h3 : ¬ s.place = 3:=by omega
   rw [if_neg h3]
   repeat' split
   all_goals rfl
  ·rw [if_neg h2]
   by_cases h3 : s.place = 3
   ·rw [if_pos h3,if_pos h3]
    split <;> rfl
   ·rw [if_neg h3,if_neg h3]
    repeat' split
    all_goals first | rfl | skip
    unfold ended
    repeat' split
    all_goals rfl
theorem wr_total : ∀ (l : List UInt8) (s : St),(wr s l).1.bad = 0 → (wr s l).1.total = s.total + (wr s l).2.1.length
 | [],s,_ => rfl
 | c :: r,s,hb => by
  by_cases h : s.bad ≠ 0 ∨ s.place = 8
  ·rw [wr_stop h]; rfl
  ·by_cases h2 : (Ck.step s c).bad ≠ 0
   ·rw [wr_bad h h2] at hb; exact absurd hb h2
   ·rw [wr_go h h2] at hb ⊢
    have:=wr_total r (Ck.step s c) hb
    have h3:=step_total s c; show (wr (Ck.step s c) r).1.total = s.total + (if s.place = 3 then c :: (wr (Ck.step s c) r).2.1 else (wr (Ck.step s c) r).2.1).length
    rw [this,h3]
    split
    ·rw [List.length_cons]; omega
    ·omega
theorem wr_ok : ∀ (l : List UInt8) (s : St),Ok s → (wr s l).1.bad = 0 → Ok (wr s l).1
 | [],s,h,_ => h
 | c :: r,s,h,hb => by
  by_cases h1 : s.bad ≠ 0 ∨ s.place = 8
  ·rw [wr_stop h1]; exact h
  ·by_cases h2 : (Ck.step s c).bad ≠ 0
   ·rw [wr_bad h1 h2] at hb; exact absurd hb h2
   ·rw [wr_go h1 h2] at hb ⊢
    exact wr_ok r _ (ok_step h c (Decidable.not_not.1 h2)) hb
def Cano (l : Flds) : Prop:=∀ p ∈ l,nmV p.1 = p.1
theorem cano_map {l : Flds} (h : Cano l) : (l.map fun p => (nmV p.1,p.2)) = l:=by
 conv => rhs; rw [← List.map_id l]
 exact List.map_congr_left fun p hp => by rw [h p hp]; rfl
theorem fline_cano {x : List UInt8} {f : List UInt8 × List UInt8} (h : fline x = some f) : nmV f.1 = f.1:=by
 unfold fline at h
 split at h
 ·cases h
 ·split at h
  ·rename_i h1
   cases h
   exact (nmE_lower h1.1).2
  ·cases h
theorem step_cano {s : St} (c : UInt8) (h : Cano s.fields) : Cano (Ck.step s c).fields:=by
 unfold Ck.step
 repeat' split
 all_goals first
  | (rw [sized_flds]; exact h)
  | exact h
  | skip
 unfold ended
 repeat' split
 all_goals first
  | exact h
  | skip
 rename_i f hf _
 intro p hp; have hp' : p ∈ s.fields ++ [f]:=hp
 rcases List.mem_append.1 hp' with hp | hp
 ·exact h p hp
 ·obtain rfl:=List.mem_singleton.1 hp
  exact fline_cano hf
theorem wr_cano : ∀ (l : List UInt8) (s : St),Cano s.fields → Cano (wr s l).1.fields
 | [],s,h => h
 | c :: r,s,h => by
  unfold wr
  split
  ·exact h
  ·split
   ·exact step_cano c h
   ·exact wr_cano r _ (step_cano c h)
structure Iv (c : C) : Prop where
 err : c.err = 0
 resp : c.resp = false
 kind : c.body = true → (c.kind = 1 ∨ c.kind = 2 ∨ c.kind = 3) ∧ (c.kind = 1 → c.len = 0)
 dec : c.body = true → c.kind = 3 → Ok c.dec ∧ Cano c.dec.fields
def bd (c : C) : Bd:=if c.body = true then some (c.kind,c.len,if c.kind = 3 then c.dec.total else 0) else none
theorem evs_G {many many' k n T : Nat} {s' : Bd} {D : List UInt8} {dn : Bool} {tr : Flds} {l : List Ev} (hk : k = 1 ∨ k = 2 ∨ k = 3) (h1 : k = 1 → D = []) (h2 : k = 2 → D.length ≤ n) (h3 : k = 3 → T + D.length ≤ 65536) (hd : dn = true → k ≠ 3 → n - D.length = 0 ∧ tr = []) (hn : dn = true → Cano tr)
  (h : G many (if dn = true then none else some (k,if k = 3 then n else n - D.length,if k = 3 then T + D.length else T)) l many' s') : G many (some (k,n,T)) (evs D dn tr ++ l) many' s':=by
 have hE : ∀ n' T',(dn = true → k ≠ 3 → n' = 0) → G many (if dn = true then none else some (k,n',T')) l many' s' → G many (some (k,n',T')) ((if dn = true then [evEnd tr] else []) ++ l) many' s':=by
  intro n' T' hz hg; cases hdn : dn with
  | false => rw [hdn,if_neg (by decide)] at hg; rw [if_neg (by decide)]; exact hg
  | true =>
   rw [hdn,if_pos rfl] at hg
   rw [if_pos rfl]
   by_cases hk3 : k = 3
   ·subst hk3
    exact .endC (cano_map (hn hdn)) hg
   ·have e:=(hd hdn hk3).2
    rw [e]
    have e2:=hz hdn hk3; subst e2; exact .endL hk3 (by omega) hg
 by_cases hD : D = []
 ·subst hD
  have hl : ([] : List UInt8).length = 0:=rfl
  unfold evs
  rw [if_pos rfl,List.nil_append]
  refine hE n T (fun a b => by have:=(hd a b).1; rw [hl] at this; omega) ?_
  rw [hl] at h
  simpa using h
 ·unfold evs
  rw [if_neg hD]
  show G many (some (k,n,T)) (evData D :: ((if dn = true then [evEnd tr] else []) ++ l)) many' s'
  rcases hk with hk | hk | hk
  ·exact absurd (h1 hk) hD
  ·subst hk
   refine .data hD (h2 rfl) (hE _ _ (fun a b => (hd a b).1) ?_)
   simpa using h
  ·subst hk
   refine .chk hD (h3 rfl) (hE _ _ (fun a b => absurd rfl b) ?_)
   simpa using h
theorem frame_no4 {L : Flds} (h : (frame 1 L).2 = 0) : (frame 1 L).1.1 ≠ 4 ∧ (frame 1 L).1.2 ≤ 65536:=by
 rcases frame_shape L with h1 | ⟨f,h1,h2⟩
 ·rw [h1]; exact ⟨by decide,by decide⟩
 ·rw [h1] at h ⊢
  rcases h2 with ⟨h3,-⟩ | h3 | ⟨n,hn,h3⟩
  ·exact absurd h h3
  ·rw [h3]; exact ⟨by decide,by decide⟩
  ·rw [h3]; exact ⟨show (2 : Nat) ≠ 4 by decide,hn⟩
theorem sC_iv {c : C} (h : Iv c) (hs : sE c = 0) : Iv (sC c):=by
 have hf:=(sE_hE hs).2.2.2; have hk:=hFr_kinds hf; have h4 : (hFr c).1.1 ≠ 4:=by
  unfold hFr at hf ⊢
  rw [if_neg (by rw [h.resp]; decide)] at hf ⊢
  exact (frame_no4 hf).1
 refine ⟨h.err,h.resp,fun _ => ⟨?_,hk.2⟩,fun _ _ => ⟨ok_zero,fun p hp => by cases hp⟩⟩
 rcases hk.1 with e | e | e | e
 ·exact .inl e
 ·exact .inr (.inl e)
 ·exact .inr (.inr e)
 ·exact absurd e h4
theorem R_G : ∀ (k : Nat) (c : C),ms c ≤ k → Iv c → (R c).1.err = 0 → G c.many (bd c) (R c).2 (R c).1.many (bd (R c).1) ∧ Iv (R c).1 ∧ (c.buf ≠ [] ∨ ahead (bd c) = [] ∨ c.body = true → ahead (bd (R c).1) = []):=by
 intro k; induction k using Nat.strongRecOn with
 | ind k ih =>
  intro c hk hi he; by_cases hb : c.body = true
  ·obtain ⟨hk1,hk2⟩:=hi.kind hb
   have h4 : ¬ c.kind = 4:=by rcases hk1 with e | e | e <;> rw [e] <;> decide
   have hbd : bd c = some (c.kind,c.len,if c.kind = 3 then c.dec.total else 0):=if_pos hb
   have hpe : pErr c = 0:=by
    cases hd : pDone c with
    | true => exact (done_ext [] hd).1
    | false =>
     have n1 : (pC c).body = true:=by show (!pDone c) = true; rw [hd]; rfl
     rw [R_body hi.err hb n1] at he
     exact he
   have hb0 : c.kind = 3 → (wr c.dec c.buf).1.bad = 0:=fun h3 => by
    unfold pErr at hpe; rw [if_pos h3] at hpe; omega
   have hi2 : Iv (pC c):=by
    refine ⟨hpe,hi.resp,fun hbb => ⟨hk1,fun e => ?_⟩,fun hbb h3 => ?_⟩
    ·show pLen c = 0
     have:=hk2 e
     unfold pLen
     split <;> omega
    ·show Ok (pDec c) ∧ Cano (pDec c).fields
     unfold pDec
     rw [if_pos (show c.kind = 3 from h3)]
     obtain ⟨o1,o2⟩:=hi.dec hb h3
     exact ⟨wr_ok _ _ o1 (hb0 h3),wr_cano _ _ o2⟩
   have hEv : ∀ {l : List Ev} {many' : Nat} {s' : Bd},G c.many (bd (pC c)) l many' s' → G c.many (bd c) (pEv c ++ l) many' s':=by
    intro l many' s' hg; rw [hbd]
    refine evs_G hk1 (fun e => ?_) (fun e => ?_) (fun e => ?_) (fun a b => ?_) (fun a => ?_) ?_
    ·unfold pData
     rw [if_neg h4,if_neg (by omega),hk2 e]; rfl
    ·unfold pData
     rw [if_neg h4,if_neg (by omega),List.length_take]; omega
    ·rw [if_pos e]
     have h1:=wr_total c.buf c.dec (hb0 e); have h2:=(wr_ok _ _ (hi.dec hb e).1 (hb0 e)).total; unfold pData
     rw [if_neg h4,if_pos e]; omega
    ·unfold pDone at a
     rw [if_neg h4,if_neg b,decide_eq_true_eq] at a
     unfold pData pTr
     rw [if_neg h4,if_neg b,if_neg b,List.length_take]
     exact ⟨by omega,rfl⟩
    ·unfold pTr
     split
     ·rename_i h3; exact wr_cano _ _ (hi.dec hb h3).2
     ·intro p hp; cases hp
    ·have e0 : bd (pC c) = if (!pDone c) = true then some (c.kind,pLen c,if c.kind = 3 then (pDec c).total else 0) else none:=rfl
     rw [e0] at hg
     cases hd : pDone c with
     | true => rw [hd,if_neg (by decide)] at hg; rw [if_pos rfl]; exact hg
     | false =>
      rw [hd,if_pos (show (!false) = true from rfl)] at hg
      rw [if_neg (by decide)]
      by_cases h3 : c.kind = 3
      ·have h1:=wr_total c.buf c.dec (hb0 h3)
       have e1 : pLen c = c.len:=by unfold pLen; rw [if_pos (.inl h3)]
       have e2 : (pDec c).total = c.dec.total + (pData c).length:=by unfold pDec pData; rw [if_pos h3,if_neg h4,if_pos h3]; exact h1
       rw [e1,if_pos h3,e2] at hg
       rw [if_pos h3,if_pos h3,if_pos h3]
       exact hg
      ·have e1 : pLen c = c.len - (pData c).length:=by
        unfold pLen pData
        rw [if_neg (by rintro (h | h); exact h3 h; exact h4 h),if_neg h4,if_neg h3,List.length_take]; omega
       rw [e1,if_neg h3] at hg
       rw [if_neg h3,if_neg h3,if_neg h3]
       exact hg
   cases hd : pDone c with
   | true =>
    have n1 : ¬ (pC c).body = true:=by show ¬ (!pDone c) = true; rw [hd]; decide
    have hm:=ms_pC hb n1; rw [R_done hi.err hb n1] at he ⊢
    obtain ⟨i1,i2,i3⟩:=ih (ms (pC c)) (by omega) (pC c) (Nat.le_refl _) hi2 he
    exact ⟨hEv i1,i2,fun _ => i3 (.inr (.inl (by show ahead (if (pC c).body = true then _ else _) = []; rw [if_neg n1]; rfl)))⟩
   | false =>
    have n1 : (pC c).body = true:=by show (!pDone c) = true; rw [hd]; rfl
    rw [R_body hi.err hb n1]
    refine ⟨?_,hi2,fun _ => ?_⟩
    ·have:=hEv (l:=[]) G.nil
     rwa [List.append_nil] at this
    ·have e0 : bd (pC c) = some (c.kind,pLen c,if c.kind = 3 then (pDec c).total else 0):=if_pos n1
     show ahead (bd (pC c)) = []
     rw [e0,ahead_some,if_neg]
     rintro ⟨h3,hz⟩
     unfold pDone at hd
     rw [if_neg h4,if_neg h3,decide_eq_false_iff_not] at hd
     unfold pLen at hz
     rw [if_neg (by rintro (h | h); exact h3 h; exact h4 h)] at hz
     omega
  ·have hbn : bd c = none:=if_neg hb
   by_cases hn : c.buf = []
   ·rw [R_nil hi.err hb hn]
    exact ⟨.nil,hi,fun _ => by rw [hbn]; rfl⟩
   ·by_cases hw : wait c
    ·rw [R_wait hi.err hb hn hw]
     exact ⟨.nil,hi,fun _ => by rw [hbn]; rfl⟩
    ·by_cases hs : sE c = 0
     ·have hm:=(ms_sC hs).1
      rw [R_head hi.err hb hn hw hs] at he ⊢
      have hsi:=sC_iv hi hs; obtain ⟨i1,i2,i3⟩:=ih (ms (sC c)) (by omega) (sC c) (Nat.le_refl _) hsi he
      obtain ⟨h1,h2,h3,h4⟩:=sE_hE hs
      have hin : inf c = false:=by unfold inf; rw [hi.resp]; rfl
      have hsb : (sC c).body = true:=by show (!inf c) = true; rw [hin]; rfl
      refine ⟨?_,i2,fun _ => i3 (.inr (.inr hsb))⟩
      have hE1 : rqE c.buf = 0:=by unfold hE at h1; rwa [if_neg (by rw [hi.resp]; decide)] at h1
      have hev : hEv c = evReq (rqM c.buf) (rqT c.buf) (rqL c.buf):=by unfold hEv; rw [if_neg (by rw [hi.resp]; decide)]
      have hfr : hFr c = frame 1 (rqL c.buf):=by unfold hFr; rw [if_neg (by rw [hi.resp]; decide)]
      obtain ⟨n,-,-,-,-,r1,r2,-⟩:=rq_read hE1
      rw [hbn,hev]
      have hbs : bd (sC c) = some ((hFr c).1.1,(hFr c).1.2,0):=by
       unfold bd
       rw [if_pos hsb]
       show some ((hFr c).1.1,(hFr c).1.2,if (hFr c).1.1 = 3 then zero.total else 0) = _
       split <;> rfl
      rw [hbs] at i1
      have hk:=hsi.kind hsb; have hk4 : (hFr c).1.1 ≠ 4:=by
       have hk1 : (hFr c).1.1 = 1 ∨ (hFr c).1.1 = 2 ∨ (hFr c).1.1 = 3:=hk.1
       rcases hk1 with e | e | e <;> rw [e] <;> decide
      refine .head (k:=(hFr c).1.1) (n:=(hFr c).1.2) (r1.elim .inl (fun h => .inr h.1)) r2 ?_ hk4 h3 i1
      rw [← hfr]
      rw [← h4]
     ·rw [R_bad hi.err hb hn hw hs] at he
      exact absurd he hs
theorem write_G {c : C} (hi : Iv c) (hc : c.closed = false) (b : List UInt8) (ha : ahead (bd c) = []) (he : (write c b).1.err = 0) : G c.many (bd c) (write c b).2 (write c b).1.many (bd (write c b).1) ∧ Iv (write c b).1 ∧ ahead (bd (write c b).1) = []:=by
 by_cases hb : b = []
 ·subst hb
  rw [write_none]
  exact ⟨.nil,hi,ha⟩
 ·rw [write_open hi.err hc hb] at he ⊢
  have hi2 : Iv (app c b):=⟨hi.err,hi.resp,hi.kind,hi.dec⟩
  obtain ⟨h1,h2,h3⟩:=R_G _ (app c b) (Nat.le_refl _) hi2 he
  exact ⟨h1,h2,h3 (.inr (.inl ha))⟩
theorem new_iv : Iv (new false []):=⟨rfl,rfl,fun h => (by cases h),fun h => (by cases h)⟩
end Cn
end Go.Proofs.YtjffffpfejmoiaaGreatDoor
