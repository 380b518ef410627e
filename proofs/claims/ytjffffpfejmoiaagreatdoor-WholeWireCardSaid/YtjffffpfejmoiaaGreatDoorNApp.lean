import Derived.Test.YtjffffpfejmoiaaGreatDoorNSpec
namespace Go.Proofs.YtjffffpfejmoiaaGreatDoor
open Go.RowKit Syn Hd Fr Ck
namespace Cn
theorem ln_ext {x : List UInt8} (y : List UInt8) (h : lnE x ≠ 21) : lnE (x ++ y) = lnE x ∧ (lnE x = 0 → lnL (x ++ y) = lnL x ∧ endF (x ++ y) = endF x):=by
 rcases endF_cases x with e | ⟨e,h2⟩ | ⟨k,e,hk⟩
 ·have h8 : ¬ x.length < 8192:=fun h8 => h (by unfold lnE; rw [e,if_pos ⟨by decide,h8⟩])
  have e5 : lnE x = 5:=by unfold lnE; rw [e,if_neg (fun h => h8 h.2),if_pos (.inl (by decide))]
  have hp : ¬ Lib.hasPrefix x [13,10] = true:=fun hp => by unfold endF at e; rw [if_pos hp] at e; cases e
  refine ⟨?_,fun h => by rw [e5] at h; cases h⟩
  rw [e5]
  rcases endF_cases (x ++ y) with e' | ⟨e',h2'⟩ | ⟨k,e',hk'⟩
  ·unfold lnE; rw [e',if_neg (fun h => h8 (by have:=h.2; rw [List.length_append] at this; omega)),if_pos (.inl (by decide))]
  ·exfalso
   by_cases hp2 : Lib.hasPrefix (x ++ y) [13,10] = true
   ·refine hp ?_
    unfold Lib.hasPrefix at hp2 ⊢
    rw [List.isPrefixOf_iff_prefix,List.prefix_iff_eq_take] at hp2 ⊢
    rw [List.take_append_of_le_length (by simp; omega)] at hp2
    exact hp2
   ·unfold endF at e'
    rw [if_neg hp2] at e'
    have:=Lib.index_ge (x ++ y) [13,10,13,10]
    split at e' <;> omega
  ·rcases Nat.lt_or_ge 8192 (k + 4) with hb | hb
   ·unfold lnE; rw [e',if_neg (by omega),if_pos (.inr (by omega))]
   ·exfalso
    have:=endF_same e' (by omega) (d:=x) (by omega) (by rw [List.take_append_of_le_length (by omega)])
    rw [e] at this; omega
 ·have hp : Lib.hasPrefix x [13,10] = true:=by
   apply Decidable.byContradiction
   intro hp; unfold endF at e
   rw [if_neg hp] at e
   have:=Lib.index_ge x [13,10,13,10]
   split at e <;> omega
  have hp2 : Lib.hasPrefix (x ++ y) [13,10] = true:=by
   unfold Lib.hasPrefix at hp ⊢
   rw [List.isPrefixOf_iff_prefix] at hp ⊢
   exact hp.trans (List.prefix_append _ _)
  have e2 : endF (x ++ y) = 2:=if_pos hp2
  have v : ∀ z : List UInt8,endF z = 2 → lnE z = 22:=fun z hz => by unfold lnE; rw [hz,if_neg (by omega),if_neg (by omega),if_pos rfl]
  exact ⟨by rw [v _ e2,v _ e],fun h => by rw [v _ e] at h; cases h⟩
 ·have e' : endF (x ++ y) = ((k + 4 : Nat) : Int):=endF_same e (by omega) (by rw [List.length_append]; omega) (by rw [List.take_append_of_le_length hk])
  have t1 : ∀ j,j ≤ k + 4 → (x ++ y).take j = x.take j:=fun j hj => List.take_append_of_le_length (by omega)
  have hL : lnL (x ++ y) = lnL x:=by
   unfold lnL
   rw [e,e',t1 _ (by omega)]
  refine ⟨?_,fun _ => ⟨hL,by rw [e,e']⟩⟩
  unfold lnE
  rw [hL,e,e',if_neg (by omega),if_neg (show ¬ (((k + 4 : Nat) : Int) < 0 ∧ x.length < 8192) by omega),show (((k + 4 : Nat) : Int)).toNat = k + 4 from rfl,t1 _ (Nat.le_refl _)]
theorem rq_ext {x : List UInt8} (y : List UInt8) (h : rqE x ≠ 21) : rqE (x ++ y) = rqE x ∧ (rqE x = 0 → rqM (x ++ y) = rqM x ∧ rqT (x ++ y) = rqT x ∧ rqL (x ++ y) = rqL x ∧ endF (x ++ y) = endF x):=by
 have hl : lnE x ≠ 21:=fun e => h (by unfold rqE; rw [if_neg (by rw [e]; decide),e])
 obtain ⟨h1,h2⟩:=ln_ext y hl
 unfold rqE
 rw [h1]
 by_cases h0 : lnE x = 0
 ·obtain ⟨h3,h4⟩:=h2 h0
  rw [if_pos h0,if_pos h0,h3]
  exact ⟨rfl,fun _ => ⟨by unfold rqM; rw [h3],by unfold rqT; rw [h3],by unfold rqL; rw [h3],h4⟩⟩
 ·rw [if_neg h0,if_neg h0]
  exact ⟨rfl,fun e => absurd e h0⟩
theorem rr_ext {x : List UInt8} (y : List UInt8) (h : rrE x ≠ 21) : rrE (x ++ y) = rrE x ∧ (rrE x = 0 → rrS (x ++ y) = rrS x ∧ rrL (x ++ y) = rrL x ∧ endF (x ++ y) = endF x):=by
 have hl : lnE x ≠ 21:=fun e => h (by unfold rrE; rw [if_neg (by rw [e]; decide),e])
 obtain ⟨h1,h2⟩:=ln_ext y hl
 unfold rrE
 rw [h1]
 by_cases h0 : lnE x = 0
 ·obtain ⟨h3,h4⟩:=h2 h0
  rw [if_pos h0,if_pos h0,h3]
  exact ⟨rfl,fun _ => ⟨by unfold rrS; rw [h3],by unfold rrL; rw [h3],h4⟩⟩
 ·rw [if_neg h0,if_neg h0]
  exact ⟨rfl,fun e => absurd e h0⟩
theorem hE_ext {c : C} (x : List UInt8) (h : hE c ≠ 21) : hE (app c x) = hE c ∧ (hE c = 0 → hEv (app c x) = hEv c ∧ hFr (app c x) = hFr c ∧ inf (app c x) = inf c ∧ endF (c.buf ++ x) = endF c.buf):=by
 unfold hE at h ⊢
 unfold hEv hFr inf
 show (if c.resp = true then rrE (c.buf ++ x) else rqE (c.buf ++ x)) = _ ∧ _
 by_cases hr : c.resp = true
 ·rw [if_pos hr] at h
  simp only [if_pos hr]
  obtain ⟨h1,h2⟩:=rr_ext x h
  refine ⟨h1,fun h0 => ?_⟩
  obtain ⟨h3,h4,h5⟩:=h2 h0
  show (if c.resp = true then evResp (rrS (c.buf ++ x)) (rrL (c.buf ++ x)) else _) = _ ∧ (if c.resp = true then respF (c.meth.headD []) (rrS (c.buf ++ x)) (frame 4 (rrL (c.buf ++ x))) else _) = _ ∧ (c.resp && decide (rrS (c.buf ++ x) < 200)) = _ ∧ _
  rw [if_pos hr,if_pos hr,h3,h4]
  exact ⟨rfl,rfl,rfl,h5⟩
 ·rw [if_neg hr] at h
  simp only [if_neg hr]
  obtain ⟨h1,h2⟩:=rq_ext x h
  refine ⟨h1,fun h0 => ?_⟩
  obtain ⟨h3,h4,h5,h6⟩:=h2 h0
  have hr2 : c.resp = false:=by simpa using hr
  show (if c.resp = true then _ else evReq (rqM (c.buf ++ x)) (rqT (c.buf ++ x)) (rqL (c.buf ++ x))) = _ ∧ (if c.resp = true then _ else frame 1 (rqL (c.buf ++ x))) = _ ∧ (c.resp && decide (rrS (c.buf ++ x) < 200)) = _ ∧ _
  simp only [hr2,h3,h4,h5,Bool.false_and,Bool.false_eq_true,if_false]
  exact ⟨trivial,trivial,trivial,h6⟩
theorem wait_ext {c : C} (x : List UInt8) (h : ¬ wait c) : ¬ wait (app c x) ∧ sE (app c x) = sE c:=by
 have hn : none_ (app c x) ↔ none_ c:=Iff.rfl
 by_cases h1 : none_ c
 ·exact ⟨fun e => e.1 (hn.2 h1),by unfold sE; rw [if_pos h1,if_pos (hn.2 h1)]⟩
 ·have h21 : hE c ≠ 21:=fun e => h ⟨h1,e⟩
  obtain ⟨h2,h3⟩:=hE_ext x h21
  refine ⟨fun e => h21 (by rw [← h2]; exact e.2),?_⟩
  unfold sE
  rw [if_neg h1,if_neg (fun e => h1 (hn.1 e)),h2]
  by_cases h4 : hE c ≠ 0
  ·rw [if_pos h4,if_pos h4]
  ·have hm : (app c x).many = c.many:=rfl
   rw [if_neg h4,if_neg h4,(h3 (Decidable.not_not.1 h4)).2.1,hm]
theorem sC_ext {c : C} (x : List UInt8) (h : sE c = 0) : sC (app c x) = app (sC c) x ∧ hEv (app c x) = hEv c:=by
 obtain ⟨h0,-,-,-⟩:=sE_hE h
 obtain ⟨n,e,h4,hl⟩:=hd_len h0
 obtain ⟨-,h3⟩:=hE_ext x (c:=c) (by rw [h0]; decide)
 obtain ⟨h5,h6,h7,h8⟩:=h3 h0
 refine ⟨?_,h5⟩
 have hd : dr (c.buf ++ x) = dr c.buf ++ x:=by
  unfold dr
  rw [h8,e]
  exact List.drop_append_of_le_length hl
 show ({ app c x with many:=c.many + 1,buf:=dr (c.buf ++ x),kind:=(hFr (app c x)).1.1,len:=(hFr (app c x)).1.2,body:=!inf (app c x),dec:=Ck.zero } : C) = _
 rw [hd,h6,h7]
 rfl
def jadd (o : List Ev) (e : Ev) : List Ev :=
 match o.getLast? with
 | some x => if x.kind = 2 ∧ e.kind = 2 then o.dropLast ++ [{ x with data:=x.data ++ e.data }] else o ++ [e]
 | none => o ++ [e]
def joined (l : List Ev) : List Ev:=l.foldl jadd []
def J (a b : List Ev) : Prop:=∀ o,a.foldl jadd o = b.foldl jadd o
theorem J.refl (a : List Ev) : J a a:=fun _ => rfl
theorem J.trans {a b c : List Ev} (h : J a b) (h2 : J b c) : J a c:=fun o => (h o).trans (h2 o)
theorem J.symm {a b : List Ev} (h : J a b) : J b a:=fun o => (h o).symm
theorem J.app {a b c d : List Ev} (h : J a b) (h2 : J c d) : J (a ++ c) (b ++ d):=fun o => by rw [List.foldl_append,List.foldl_append,h,h2]
theorem J.joined {a b : List Ev} (h : J a b) : joined a = joined b:=h []
theorem jadd_two (o : List Ev) (a b : List UInt8) : jadd (jadd o (evData a)) (evData b) = jadd o (evData (a ++ b)):=by
 unfold jadd
 cases hl : o.getLast? with
 | none =>
  simp only
  rw [List.getLast?_append,List.getLast?_singleton,List.dropLast_concat]
  rfl
 | some x =>
  by_cases hx : x.kind = 2
  ·have h1 : x.kind = 2 ∧ (evData a).kind = 2:=⟨hx,rfl⟩
   have h2 : x.kind = 2 ∧ (evData (a ++ b)).kind = 2:=⟨hx,rfl⟩
   simp only [if_pos h1,if_pos h2]
   rw [List.getLast?_append,List.getLast?_singleton,List.dropLast_concat]
   show (if x.kind = 2 ∧ (evData b).kind = 2 then _ else _) = _
   rw [if_pos ⟨hx,rfl⟩]
   show o.dropLast ++ [{ x with data:=(x.data ++ a) ++ b }] = o.dropLast ++ [{ x with data:=x.data ++ (a ++ b) }]
   rw [List.append_assoc]
  ·have h1 : ¬ (x.kind = 2 ∧ (evData a).kind = 2):=fun h => hx h.1
   have h2 : ¬ (x.kind = 2 ∧ (evData (a ++ b)).kind = 2):=fun h => hx h.1
   simp only [if_neg h1,if_neg h2]
   rw [List.getLast?_append,List.getLast?_singleton,List.dropLast_concat]
   rfl
theorem evs_two (a b : List UInt8) (dn : Bool) (t t' : Flds) : J (evs (a ++ b) dn t) (evs a false t' ++ evs b dn t):=by
 intro o; unfold evs
 by_cases ha : a = []
 ·subst ha; simp
 ·by_cases hb : b = []
  ·subst hb; simp [ha]
  ·rw [if_neg ha,if_neg hb,if_neg (fun e => ha (List.append_eq_nil_iff.1 e).1),if_neg (show ¬ (false = true) by decide)]
   simp only [List.append_nil,List.cons_append,List.nil_append,List.foldl_cons]
   rw [jadd_two]
theorem wr_all : ∀ (l : List UInt8) (s : St),(wr s l).1.bad = 0 → (wr s l).1.place ≠ 8 → (wr s l).2.2 = l.length
 | [],_,_,_ => rfl
 | c :: r,s,hb,h8 => by
  by_cases h : s.bad ≠ 0 ∨ s.place = 8
  ·rw [wr_stop h] at hb h8
   rcases h with h | h
   ·exact absurd hb h
   ·exact absurd h h8
  ·by_cases h2 : (Ck.step s c).bad ≠ 0
   ·rw [wr_bad h h2] at hb; exact absurd hb h2
   ·rw [wr_go h h2] at hb h8 ⊢
    show (wr (Ck.step s c) r).2.2 + 1 = r.length + 1
    rw [wr_all r _ hb h8]
theorem pC_eq {a b : C} (h1 : a.resp = b.resp) (h2 : a.closed = b.closed) (h3 : pDone a = pDone b) (h4 : a.meth = b.meth) (h5 : a.many = b.many) (h6 : pBuf a = pBuf b) (h7 : a.kind = b.kind) (h8 : pLen a = pLen b) (h9 : pDec a = pDec b) (h10 : pErr a = pErr b) : pC a = pC b:=by
 show C.mk a.resp a.closed (!pDone a) (if (pDone a && a.resp) = true then a.meth.tail else a.meth) a.many (pBuf a) a.kind (pLen a) (pDec a) (pErr a) = C.mk b.resp b.closed (!pDone b) (if (pDone b && b.resp) = true then b.meth.tail else b.meth) b.many (pBuf b) b.kind (pLen b) (pDec b) (pErr b)
 rw [h1,h2,h3,h4,h5,h6,h7,h8,h9,h10]
theorem done_ext {c : C} (x : List UInt8) (h : pDone c = true) : pErr c = 0 ∧ pC (app c x) = app (pC c) x ∧ pEv (app c x) = pEv c ∧ pDone (app c x) = true:=by
 by_cases h4 : c.kind = 4
 ·unfold pDone at h; rw [if_pos h4] at h; cases h
 ·by_cases h3 : c.kind = 3
  ·unfold pDone at h
   rw [if_neg h4,if_pos h3,decide_eq_true_iff] at h
   have hw : wr c.dec (c.buf ++ x) = wr c.dec c.buf:=by
    rw [wr_append,wr_stop (.inr h.2)]
    simp
   have hn:=wr_count c.buf c.dec; have hd : pDone c = true:=by unfold pDone; rw [if_neg h4,if_pos h3,decide_eq_true_iff]; exact h
   have e1 : pDone (app c x) = true:=by
    unfold pDone
    rw [if_neg (show ¬ (app c x).kind = 4 from h4),if_pos (show (app c x).kind = 3 from h3),decide_eq_true_iff]
    show (wr c.dec (c.buf ++ x)).1.bad = 0 ∧ (wr c.dec (c.buf ++ x)).1.place = 8
    rw [hw]; exact h
   have e2 : pErr c = 0:=by unfold pErr; rw [if_pos h3,h.1]; rfl
   have e2' : pErr (app c x) = pErr c:=by unfold pErr; show (if c.kind = 3 then (((wr c.dec (c.buf ++ x)).1.bad : Nat) : Int) else 0) = _; rw [hw]
   have e3 : pBuf (app c x) = pBuf c ++ x:=by
    unfold pBuf
    show (if c.kind = 4 then [] else if c.kind = 3 then (c.buf ++ x).drop (wr c.dec (c.buf ++ x)).2.2 else (c.buf ++ x).drop c.len) = _
    rw [if_neg h4,if_pos h3,if_neg h4,if_pos h3,hw,List.drop_append_of_le_length hn]
   have e4 : pDec (app c x) = pDec c:=by unfold pDec; show (if c.kind = 3 then (wr c.dec (c.buf ++ x)).1 else c.dec) = _; rw [hw]
   have e5 : pLen (app c x) = pLen c:=by
    unfold pLen
    show (if c.kind = 3 ∨ c.kind = 4 then c.len else c.len - (c.buf ++ x).length) = _
    rw [if_pos (.inl h3),if_pos (.inl h3)]
   have e6 : pData (app c x) = pData c:=by
    unfold pData
    show (if c.kind = 4 then c.buf ++ x else if c.kind = 3 then (wr c.dec (c.buf ++ x)).2.1 else (c.buf ++ x).take c.len) = _
    rw [if_neg h4,if_pos h3,if_neg h4,if_pos h3,hw]
   have e7 : pTr (app c x) = pTr c:=by unfold pTr; show (if c.kind = 3 then (wr c.dec (c.buf ++ x)).1.fields else []) = _; rw [hw]
   refine ⟨e2,?_,by unfold pEv; rw [e6,e7,e1,hd],e1⟩
   show C.mk c.resp c.closed (!pDone (app c x)) (if (pDone (app c x) && c.resp) = true then c.meth.tail else c.meth) c.many (pBuf (app c x)) c.kind (pLen (app c x)) (pDec (app c x)) (pErr (app c x)) = C.mk c.resp c.closed (!pDone c) (if (pDone c && c.resp) = true then c.meth.tail else c.meth) c.many (pBuf c ++ x) c.kind (pLen c) (pDec c) (pErr c)
   rw [e1,e2',e3,e4,e5,hd]
  ·unfold pDone at h
   rw [if_neg h4,if_neg h3,decide_eq_true_iff] at h
   have hd : pDone c = true:=by unfold pDone; rw [if_neg h4,if_neg h3,decide_eq_true_iff]; exact h
   have e1 : pDone (app c x) = true:=by
    unfold pDone
    rw [if_neg (show ¬ (app c x).kind = 4 from h4),if_neg (show ¬ (app c x).kind = 3 from h3),decide_eq_true_iff]
    show c.len ≤ (c.buf ++ x).length
    rw [List.length_append]; omega
   have e2 : pErr c = 0:=by unfold pErr; rw [if_neg h3]
   have e2' : pErr (app c x) = pErr c:=by rw [e2]; unfold pErr; exact if_neg h3
   have e3 : pBuf (app c x) = pBuf c ++ x:=by
    unfold pBuf
    show (if c.kind = 4 then [] else if c.kind = 3 then (c.buf ++ x).drop (wr c.dec (c.buf ++ x)).2.2 else (c.buf ++ x).drop c.len) = _
    rw [if_neg h4,if_neg h3,if_neg h4,if_neg h3,List.drop_append_of_le_length h]
   have e4 : pDec (app c x) = pDec c:=by unfold pDec; show (if c.kind = 3 then (wr c.dec (c.buf ++ x)).1 else c.dec) = _; rw [if_neg h3,if_neg h3]
   have e5 : pLen (app c x) = pLen c:=by
    unfold pLen
    show (if c.kind = 3 ∨ c.kind = 4 then c.len else c.len - (c.buf ++ x).length) = _
    rw [if_neg (by rintro (h | h); exact h3 h; exact h4 h),if_neg (by rintro (h | h); exact h3 h; exact h4 h),List.length_append]; omega
   have e6 : pData (app c x) = pData c:=by
    unfold pData
    show (if c.kind = 4 then c.buf ++ x else if c.kind = 3 then (wr c.dec (c.buf ++ x)).2.1 else (c.buf ++ x).take c.len) = _
    rw [if_neg h4,if_neg h3,if_neg h4,if_neg h3,List.take_append_of_le_length h]
   have e7 : pTr (app c x) = pTr c:=by unfold pTr; show (if c.kind = 3 then (wr c.dec (c.buf ++ x)).1.fields else []) = _; rw [if_neg h3,if_neg h3]
   refine ⟨e2,?_,by unfold pEv; rw [e6,e7,e1,hd],e1⟩
   show C.mk c.resp c.closed (!pDone (app c x)) (if (pDone (app c x) && c.resp) = true then c.meth.tail else c.meth) c.many (pBuf (app c x)) c.kind (pLen (app c x)) (pDec (app c x)) (pErr (app c x)) = C.mk c.resp c.closed (!pDone c) (if (pDone c && c.resp) = true then c.meth.tail else c.meth) c.many (pBuf c ++ x) c.kind (pLen c) (pDec c) (pErr c)
   rw [e1,e2',e3,e4,e5,hd]
theorem more_ext {c : C} (x : List UInt8) (h : pDone c = false) (he : pErr c = 0) : pC (app c x) = pC (app (pC c) x) ∧ pData (app c x) = pData c ++ pData (app (pC c) x) ∧ pDone (app c x) = pDone (app (pC c) x) ∧ pTr (app c x) = pTr (app (pC c) x):=by
 have hm : (pC c).meth = c.meth:=by show (if (pDone c && c.resp) = true then _ else _) = _; rw [h]; rfl
 by_cases h4 : c.kind = 4
 ·have hb : (pC c).buf = []:=by show pBuf c = []; unfold pBuf; rw [if_pos h4]
  have k4 : (app (pC c) x).kind = 4:=h4
  have k4' : (app c x).kind = 4:=h4
  have d1 : pDone (app c x) = false:=by unfold pDone; rw [if_pos k4']
  have d2 : pDone (app (pC c) x) = false:=by unfold pDone; rw [if_pos k4]
  have n3 : ¬ (app (pC c) x).kind = 3:=by rw [k4]; decide
  have n3' : ¬ (app c x).kind = 3:=by rw [k4']; decide
  have hl : pLen c = c.len:=by unfold pLen; rw [if_pos (.inr h4)]
  have hdc : pDec c = c.dec:=by unfold pDec; rw [if_neg (by rw [h4]; decide)]
  refine ⟨?_,?_,by rw [d1,d2],by unfold pTr; rw [if_neg n3,if_neg n3']⟩
  ·refine pC_eq rfl rfl (by rw [d1,d2]) hm.symm rfl ?_ rfl ?_ ?_ ?_
   ·unfold pBuf; rw [if_pos k4',if_pos k4]
   ·unfold pLen; rw [if_pos (.inr k4'),if_pos (.inr k4)]; exact hl.symm
   ·unfold pDec; rw [if_neg n3,if_neg n3']; exact hdc.symm
   ·unfold pErr; rw [if_neg n3,if_neg n3']
  ·unfold pData
   rw [if_pos k4',if_pos h4,if_pos k4]
   show c.buf ++ x = c.buf ++ ((pC c).buf ++ x)
   rw [hb]; rfl
 ·by_cases h3 : c.kind = 3
  ·have hw : (wr c.dec c.buf).1.bad = 0:=by unfold pErr at he; rw [if_pos h3] at he; omega
   have h8 : (wr c.dec c.buf).1.place ≠ 8:=fun e => by
    unfold pDone at h
    rw [if_neg h4,if_pos h3,decide_eq_true (p:=_ ∧ _) ⟨hw,e⟩] at h; cases h
   have hn:=wr_all _ _ hw h8; have hb : (pC c).buf = []:=by show pBuf c = []; unfold pBuf; rw [if_neg h4,if_pos h3,hn,List.drop_length]
   have hd : (pC c).dec = (wr c.dec c.buf).1:=by show pDec c = _; unfold pDec; rw [if_pos h3]
   have hl : pLen c = c.len:=by unfold pLen; rw [if_pos (.inl h3)]
   have k3 : (app (pC c) x).kind = 3:=h3
   have k3' : (app c x).kind = 3:=h3
   have n4 : ¬ (app (pC c) x).kind = 4:=h4
   have n4' : ¬ (app c x).kind = 4:=h4
   have hw2:=wr_append c.buf x c.dec; have e0 : wr (app (pC c) x).dec (app (pC c) x).buf = wr (wr c.dec c.buf).1 x:=by
    show wr (pC c).dec ((pC c).buf ++ x) = _
    rw [hb,hd]; rfl
   have e1 : (wr (app c x).dec (app c x).buf) = ((wr (wr c.dec c.buf).1 x).1,(wr c.dec c.buf).2.1 ++ (wr (wr c.dec c.buf).1 x).2.1,(wr c.dec c.buf).2.2 + (wr (wr c.dec c.buf).1 x).2.2):=hw2
   have d1 : pDone (app c x) = pDone (app (pC c) x):=by unfold pDone; rw [if_neg n4,if_neg n4',if_pos k3,if_pos k3',e0,e1]
   refine ⟨?_,?_,d1,by unfold pTr; rw [if_pos k3,if_pos k3',e0,e1]⟩
   ·have f1 : pBuf (app c x) = pBuf (app (pC c) x):=by
     unfold pBuf
     rw [if_neg n4,if_neg n4',if_pos k3,if_pos k3',e0,e1,hn]
     show (c.buf ++ x).drop (c.buf.length + _) = ((pC c).buf ++ x).drop _
     rw [hb,← List.drop_drop,List.drop_left]; rfl
    have f2 : pLen (app c x) = pLen (app (pC c) x):=by
     unfold pLen
     rw [if_pos (.inl k3),if_pos (.inl k3')]
     exact hl.symm
    have f3 : pDec (app c x) = pDec (app (pC c) x):=by unfold pDec; rw [if_pos k3,if_pos k3',e0,e1]
    have f4 : pErr (app c x) = pErr (app (pC c) x):=by unfold pErr; rw [if_pos k3,if_pos k3',e0,e1]
    exact pC_eq rfl rfl d1 hm.symm rfl f1 rfl f2 f3 f4
   ·unfold pData
    rw [if_neg n4,if_neg n4',if_pos k3,if_pos k3',if_neg h4,if_pos h3,e0,e1]
  ·have hlt : c.buf.length < c.len:=by
    unfold pDone at h
    rw [if_neg h4,if_neg h3,decide_eq_false_iff_not] at h
    omega
   have hb : (pC c).buf = []:=by show pBuf c = []; unfold pBuf; rw [if_neg h4,if_neg h3]; exact List.drop_of_length_le (by omega)
   have hl : (pC c).len = c.len - c.buf.length:=by show pLen c = _; unfold pLen; rw [if_neg (by rintro (h | h); exact h3 h; exact h4 h)]
   have hdc : (pC c).dec = c.dec:=by show pDec c = _; unfold pDec; rw [if_neg h3]
   have n3 : ¬ (app (pC c) x).kind = 3:=h3
   have n3' : ¬ (app c x).kind = 3:=h3
   have n4 : ¬ (app (pC c) x).kind = 4:=h4
   have n4' : ¬ (app c x).kind = 4:=h4
   have eb : (app (pC c) x).buf = x:=by show (pC c).buf ++ x = x; rw [hb]; rfl
   have eb' : (app c x).buf = c.buf ++ x:=rfl
   have el : (app (pC c) x).len = c.len - c.buf.length:=hl
   have el' : (app c x).len = c.len:=rfl
   have ed : (app (pC c) x).dec = c.dec:=hdc
   have ed' : (app c x).dec = c.dec:=rfl
   have d1 : pDone (app c x) = pDone (app (pC c) x):=by
    unfold pDone
    rw [if_neg n4,if_neg n4',if_neg n3,if_neg n3',eb,eb',el,el',List.length_append]
    exact decide_eq_decide.2 (by omega)
   refine ⟨?_,?_,d1,by unfold pTr; rw [if_neg n3,if_neg n3']⟩
   ·have f1 : pBuf (app c x) = pBuf (app (pC c) x):=by
     unfold pBuf
     rw [if_neg n4,if_neg n4',if_neg n3,if_neg n3',eb,eb',el,el',List.drop_append,List.drop_of_length_le (by omega)]
     rfl
    have f2 : pLen (app c x) = pLen (app (pC c) x):=by
     unfold pLen
     rw [if_neg (by rintro (h | h); exact n3 h; exact n4 h),if_neg (by rintro (h | h); exact n3 h; exact n4 h),eb,eb',el,el',List.length_append]
     omega
    have f3 : pDec (app c x) = pDec (app (pC c) x):=by unfold pDec; rw [if_neg n3,if_neg n3',ed,ed']
    have f4 : pErr (app c x) = pErr (app (pC c) x):=by unfold pErr; rw [if_neg n3,if_neg n3']
    exact pC_eq rfl rfl d1 hm.symm rfl f1 rfl f2 f3 f4
   ·unfold pData
    rw [if_neg n4,if_neg n4',if_neg n3,if_neg n3',if_neg h4,if_neg h3,eb,eb',el,el',List.take_append,List.take_of_length_le (l:=c.buf) (by omega)]
theorem fail_ext {c : C} (x : List UInt8) (he : pErr c ≠ 0) : pDone c = false ∧ pDone (app c x) = false ∧ pErr (app c x) = pErr c ∧ pEv (app c x) = pEv c:=by
 have h3 : c.kind = 3:=by
  apply Decidable.byContradiction
  intro h; exact he (by unfold pErr; rw [if_neg h])
 have h4 : ¬ c.kind = 4:=by rw [h3]; decide
 have hw : (wr c.dec c.buf).1.bad ≠ 0:=by unfold pErr at he; rw [if_pos h3] at he; omega
 have e : wr c.dec (c.buf ++ x) = wr c.dec c.buf:=by rw [wr_append,wr_stop (.inl hw)]; simp
 have k3 : (app c x).kind = 3:=h3
 have k4 : ¬ (app c x).kind = 4:=h4
 have eb : wr (app c x).dec (app c x).buf = wr c.dec c.buf:=e
 have d1 : pDone c = false:=by unfold pDone; rw [if_neg h4,if_pos h3,decide_eq_false_iff_not]; exact fun h => hw h.1
 have d2 : pDone (app c x) = false:=by unfold pDone; rw [if_neg k4,if_pos k3,eb,decide_eq_false_iff_not]; exact fun h => hw h.1
 refine ⟨d1,d2,by unfold pErr; rw [if_pos k3,if_pos h3,eb],?_⟩
 unfold pEv
 rw [d1,d2]
 unfold pData pTr
 rw [if_neg k4,if_pos k3,if_pos k3,if_neg h4,if_pos h3,if_pos h3,eb]
theorem R_app : ∀ (k : Nat) (c : C),ms c ≤ k → c.err = 0 → ∀ b : List UInt8,
  ((R c).1.err ≠ 0 ∧ (R (app c b)).1.err = (R c).1.err ∧ J (R (app c b)).2 (R c).2) ∨
  ((R c).1.err = 0 ∧ (R (app c b)).1 = (R (app (R c).1 b)).1 ∧ J (R (app c b)).2 ((R c).2 ++ (R (app (R c).1 b)).2)):=by
 intro k; induction k using Nat.strongRecOn with
 | ind k ih =>
  intro c hk h0 b; have h0' : (app c b).err = 0:=h0
  by_cases hb : c.body = true
  ·have hb' : (app c b).body = true:=hb
   cases hd : pDone c with
   | true =>
    obtain ⟨e1,e2,e3,e4⟩:=done_ext b hd
    have n1 : ¬ (pC c).body = true:=by show ¬ (!pDone c) = true; rw [hd]; decide
    have n2 : ¬ (pC (app c b)).body = true:=by show ¬ (!pDone (app c b)) = true; rw [e4]; decide
    rw [R_done h0 hb n1,R_done h0' hb' n2,e2,e3]
    have hm:=ms_pC hb n1; rcases ih (ms (pC c)) (by omega) (pC c) (Nat.le_refl _) e1 b with ⟨h1,h2,h3⟩ | ⟨h1,h2,h3⟩
    ·exact .inl ⟨h1,h2,(J.refl _).app h3⟩
    ·exact .inr ⟨h1,h2,by show J _ ((pEv c ++ (R (pC c)).2) ++ _); rw [List.append_assoc]; exact (J.refl _).app h3⟩
   | false =>
    have n1 : (pC c).body = true:=by show (!pDone c) = true; rw [hd]; rfl
    rw [R_body h0 hb n1]
    by_cases he : pErr c = 0
    ·refine .inr ⟨he,?_⟩
     obtain ⟨e1,e2,e3,e4⟩:=more_ext b hd he
     have h0'' : (app (pC c) b).err = 0:=he
     have hb'' : (app (pC c) b).body = true:=n1
     have hj : J (pEv (app c b)) (pEv c ++ pEv (app (pC c) b)):=by
      unfold pEv
      rw [e2,e3,e4,hd]
      exact evs_two _ _ _ _ _
     by_cases hx : (pC (app c b)).body = true
     ·rw [R_body h0' hb' hx,R_body h0'' hb'' (by rw [← e1]; exact hx)]
      exact ⟨e1,hj⟩
     ·rw [R_done h0' hb' hx,R_done h0'' hb'' (by rw [← e1]; exact hx)]
      refine ⟨by rw [e1],?_⟩
      rw [← List.append_assoc,e1]
      exact hj.app (J.refl _)
    ·obtain ⟨e1,e2,e3,e4⟩:=fail_ext b he
     have hx : (pC (app c b)).body = true:=by show (!pDone (app c b)) = true; rw [e2]; rfl
     rw [R_body h0' hb' hx]
     exact .inl ⟨he,e3,by rw [e4]; exact J.refl _⟩
  ·have hb' : ¬ (app c b).body = true:=hb
   by_cases hn : c.buf = []
   ·rw [R_nil h0 hb hn]
    exact .inr ⟨h0,rfl,J.refl _⟩
   ·by_cases hw : wait c
    ·rw [R_wait h0 hb hn hw]
     exact .inr ⟨h0,rfl,J.refl _⟩
    ·obtain ⟨w1,w2⟩:=wait_ext b hw
     have hn' : ¬ (app c b).buf = []:=fun e => hn (List.append_eq_nil_iff.1 e).1
     by_cases hs : sE c = 0
     ·obtain ⟨s1,s2⟩:=sC_ext b hs
      have hm:=(ms_sC hs).1; rw [R_head h0 hb hn hw hs,R_head h0' hb' hn' w1 (by rw [w2]; exact hs),s1,s2]
      have hE0 : (sC c).err = 0:=h0
      rcases ih (ms (sC c)) (by omega) (sC c) (Nat.le_refl _) hE0 b with ⟨h1,h2,h3⟩ | ⟨h1,h2,h3⟩
      ·exact .inl ⟨h1,h2,(J.refl [hEv c]).app h3⟩
      ·exact .inr ⟨h1,h2,(J.refl [hEv c]).app h3⟩
     ·rw [R_bad h0 hb hn hw hs,R_bad h0' hb' hn' w1 (by rw [w2]; exact hs)]
      exact .inl ⟨hs,w2,J.refl _⟩
end Cn
end Go.Proofs.YtjffffpfejmoiaaGreatDoor
