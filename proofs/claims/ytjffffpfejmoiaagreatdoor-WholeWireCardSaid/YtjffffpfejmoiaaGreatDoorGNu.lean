import Derived.Test.YtjffffpfejmoiaaGreatDoorGNr
import Derived.Test.YtjffffpfejmoiaaGreatDoorGXe
import Derived.Test.YtjffffpfejmoiaaGreatDoorGNt
namespace Go.Proofs.YtjffffpfejmoiaaGreatDoor
open Go.RowKit Syn Hd Fr Ck
namespace Cn
def slen : Value → Nat
 | .slice _ n _ => n
 | _ => 0
def cuts : List UInt8 → List UInt8 → List (List UInt8)
 | b,[] => if b = [] then [] else [b]
 | b,z :: zs => if b = [] then [] else b.take (z.toNat + 1) :: cuts (b.drop (z.toNat + 1)) zs
theorem cuts_nil (zs : List UInt8) : cuts [] zs = []:=by cases zs <;> rfl
theorem cuts_flat : ∀ (zs b : List UInt8),(cuts b zs).flatten = b
 | [],b => by
  unfold cuts
  split
  ·rename_i h; rw [h]; rfl
  ·simp
 | z :: zs,b => by
  unfold cuts
  split
  ·rename_i h; rw [h]; rfl
  ·rw [List.flatten_cons,cuts_flat zs,List.take_append_drop]
theorem cuts_len : ∀ (zs b : List UInt8),(cuts b zs).length ≤ zs.length + 1
 | [],b => by
  unfold cuts
  split
  ·exact Nat.zero_le _
  ·exact Nat.le_refl _
 | z :: zs,b => by
  unfold cuts
  split
  ·exact Nat.zero_le _
  ·have:=cuts_len zs (b.drop (z.toNat + 1))
   rw [List.length_cons,List.length_cons]; omega
theorem cuts_ne : ∀ (zs b : List UInt8),∀ x ∈ cuts b zs,x ≠ []
 | [],b,x,h => by
  unfold cuts at h
  split at h
  ·cases h
  ·rename_i hb
   obtain rfl:=List.mem_singleton.1 h
   exact hb
 | z :: zs,b,x,h => by
  unfold cuts at h
  split at h
  ·cases h
  ·rename_i hb
   rcases List.mem_cons.1 h with rfl | h
   ·intro e
    have h1:=congrArg List.length e; rw [List.length_take,List.length_nil] at h1
    have:=List.length_pos_iff.2 hb
    omega
   ·exact cuts_ne zs _ x h
def cutN (b zs : List UInt8) (i : Nat) : Nat:=if h : i < zs.length then min b.length (zs[i].toNat + 1) else b.length
theorem cuts_at {b zs : List UInt8} {i : Nat} (hb : b ≠ []) : cuts b (zs.drop i) = b.take (cutN b zs i) :: cuts (b.drop (cutN b zs i)) (zs.drop (i + 1)):=by
 unfold cutN
 by_cases h : i < zs.length
 ·rw [dif_pos h,List.drop_eq_getElem_cons h]
  conv => lhs; unfold cuts
  rw [if_neg hb]
  rcases Nat.lt_or_ge b.length (zs[i].toNat + 1) with h1 | h1
  ·rw [Nat.min_eq_left (by omega),List.take_of_length_le (by omega),List.drop_of_length_le (l:=b) (i:=zs[i].toNat + 1) (by omega),List.drop_length,List.take_length]
  ·rw [Nat.min_eq_right h1]
 ·rw [dif_neg h,List.take_length,List.drop_length,cuts_nil,List.drop_of_length_le (l:=zs) (i:=i) (by omega)]
  conv => lhs; unfold cuts
  rw [if_neg hb]
theorem cutN_le (b zs : List UInt8) (i : Nat) : cutN b zs i ≤ b.length:=by unfold cutN; split <;> omega
theorem cutN_pos {b zs : List UInt8} {i : Nat} (hb : b ≠ []) : 0 < cutN b zs i:=by
 have:=List.length_pos_iff.2 hb
 unfold cutN; split <;> omega
theorem gath_two (o : List Rq) (x e : Ev) (h1 : x.kind = 2) (h2 : e.kind = 2) : gath (gath o x) e = gath o { x with data:=x.data ++ e.data }:=by
 have h3 : ({ x with data:=x.data ++ e.data } : Ev).kind = 2:=h1
 rcases List.eq_nil_or_concat o with rfl | ⟨i,r,rfl⟩
 ·rw [gath_none (by omega),gath_none (by omega),gath_none (by rw [h3]; decide)]
 ·rw [List.concat_eq_append,gath_data h1,gath_data h2,gath_data h3]
  simp
theorem gath_jadd (o : List Ev) (e : Ev) : gathered (jadd o e) = gath (gathered o) e:=by
 rcases List.eq_nil_or_concat o with rfl | ⟨i,x,rfl⟩
 ·rw [jadd_nil']; exact gathered_snoc [] e
 ·rw [List.concat_eq_append]
  by_cases h : x.kind = 2 ∧ e.kind = 2
  ·rw [jadd_two' h,gathered_snoc,gathered_snoc,gath_two _ _ _ h.1 h.2]
  ·rw [jadd_one' h,gathered_snoc]
theorem gath_fold : ∀ (l o : List Ev),gathered (l.foldl jadd o) = l.foldl gath (gathered o)
 | [],_ => rfl
 | e :: l,o => by rw [List.foldl_cons,List.foldl_cons,gath_fold l,gath_jadd]
theorem gathered_joined (l : List Ev) : gathered (joined l) = gathered l:=gath_fold l []
theorem gathered_J {a b : List Ev} (h : J a b) : gathered a = gathered b:=by rw [← gathered_joined a,h.joined,gathered_joined b]
theorem mem_jadd {o : List Ev} {e x : Ev} (hx : x.kind ≠ 2) : x ∈ jadd o e ↔ x ∈ o ∨ x = e:=by
 rcases List.eq_nil_or_concat o with rfl | ⟨i,y,rfl⟩
 ·rw [jadd_nil']; simp
 ·rw [List.concat_eq_append]
  by_cases h : y.kind = 2 ∧ e.kind = 2
  ·rw [jadd_two' h]
   constructor
   ·intro hm
    rcases List.mem_append.1 hm with hm | hm
    ·exact .inl (List.mem_append_left _ hm)
    ·obtain rfl:=List.mem_singleton.1 hm
     exact absurd h.1 hx
   ·rintro (hm | rfl)
    ·rcases List.mem_append.1 hm with hm | hm
     ·exact List.mem_append_left _ hm
     ·obtain rfl:=List.mem_singleton.1 hm
      exact absurd h.1 hx
    ·exact absurd h.2 hx
  ·rw [jadd_one' h,List.mem_append,List.mem_singleton]
theorem mem_fold {x : Ev} (hx : x.kind ≠ 2) : ∀ (l o : List Ev),x ∈ l.foldl jadd o ↔ x ∈ o ∨ x ∈ l
 | [],o => by simp
 | e :: l,o => by
  rw [List.foldl_cons,mem_fold hx l,mem_jadd hx,List.mem_cons]
  constructor
  ·rintro ((h | h) | h)
   ·exact .inl h
   ·exact .inr (.inl h)
   ·exact .inr (.inr h)
  ·rintro (h | h | h)
   ·exact .inl (.inl h)
   ·exact .inl (.inr h)
   ·exact .inr h
theorem mem_J {a b : List Ev} (h : J a b) {x : Ev} (hx : x.kind ≠ 2) : x ∈ a ↔ x ∈ b:=by
 have h1:=mem_fold hx a []; have h2:=mem_fold hx b []; rw [h []] at h1
 simp at h1 h2
 exact h1.symm.trans h2
def Wr (e : Ev) : Prop:=(e.kind = 1 → wqE e.m e.t e.rf = 0) ∧ (e.kind = 3 → e.tr = [])
theorem ok_nil : (okL ([] : Flds) && fitL []) = true:=rfl
theorem G.no {many many' : Nat} {b b' : Bd} {l : List Ev} (h : G many b l many' b') : (∀ e ∈ l,Wr e) → ∀ {s : FS},Ms s b → ¬ ((Cn.fmt s l).1 = 5 ∨ (Cn.fmt s l).1 = 34):=by
  induction h with
  | nil => intro hw s hs h1; rcases h1 with h1 | h1 <;> cases h1
  | @head many many' k n s' m t f l g1 g2 g3 g4 g5 _ ih =>
   intro hw s hs h1; obtain ⟨a1,a2⟩:=hs
   have w0 : wqE m t f = 0:=(hw _ List.mem_cons_self).1 rfl
   have hf : fev s (evReq m t f) = (0,⟨true,s.cl,k,n,s.out ++ wqB m t f⟩):=by
    rw [fev_head rfl a1 a2]
    show (if wqE m t f ≠ 0 then _ else if (frame 1 f).2 ≠ 0 then _ else (0,(⟨true,s.cl,(frame 1 f).1.1,(frame 1 f).1.2,s.out ++ wqB m t f⟩ : FS))) = _
    rw [if_neg (fun h => h w0),g3,if_neg (fun h => h rfl)]
   rw [fmt_cons l hf] at h1
   exact ih (fun e he => hw e (List.mem_cons_of_mem _ he)) (s:=⟨true,s.cl,k,n,s.out ++ wqB m t f⟩) ⟨a1,rfl,rfl,rfl⟩ h1
  | @data many many' n T s' b l g1 g2 _ ih =>
   intro hw s hs h1; obtain ⟨a1,a2,a3,a4⟩:=hs
   have hf : fev s (evData b) = (0,⟨true,s.cl,2,n - b.length,s.out ++ b⟩):=by
    rw [fev_data rfl a1 a2]
    show (if s.k = 3 then _ else if s.k = 1 ∧ b ≠ [] then _ else if s.k = 2 ∧ s.n < b.length then _ else (0,(⟨s.op,s.cl,s.k,(if s.k = 2 then s.n - b.length else s.n),s.out ++ b⟩ : FS))) = _
    rw [a3,a4,a2,if_neg (by decide),if_neg (by rintro ⟨h,-⟩; cases h),if_neg (by rintro ⟨-,h⟩; omega),if_pos rfl]
   rw [fmt_cons l hf] at h1
   exact ih (fun e he => hw e (List.mem_cons_of_mem _ he)) (s:=⟨true,s.cl,2,n - b.length,s.out ++ b⟩) ⟨a1,rfl,rfl,rfl⟩ h1
  | @chk many many' n T s' b l g1 g2 _ ih =>
   intro hw s hs h1; obtain ⟨a1,a2,a3,a4⟩:=hs
   have hf : fev s (evData b) = (0,⟨true,s.cl,3,n,s.out ++ Ck.chk b⟩):=by
    rw [fev_data rfl a1 a2]
    show (if s.k = 3 then (0,(⟨s.op,s.cl,s.k,s.n,s.out ++ Ck.chk b⟩ : FS)) else _) = _
    rw [if_pos a3,a3,a4,a2]
   rw [fmt_cons l hf] at h1
   exact ih (fun e he => hw e (List.mem_cons_of_mem _ he)) (s:=⟨true,s.cl,3,n,s.out ++ Ck.chk b⟩) ⟨a1,rfl,rfl,rfl⟩ h1
  | @endL many many' k T s' l g1 g2 _ ih =>
   intro hw s hs h1; obtain ⟨a1,a2,a3,a4⟩:=hs
   have hf : fev s (evEnd []) = (0,⟨false,false,k,0,s.out⟩):=by
    rw [fev_end rfl a1 a2]
    show (if s.k = 3 then _ else if s.k = 2 ∧ 0 < s.n then _ else if ([] : Flds) ≠ [] then _ else (0,(⟨false,decide (s.k = 4),s.k,s.n,s.out⟩ : FS))) = _
    rw [a3,a4,if_neg g1,if_neg (by rintro ⟨-,h⟩; omega),if_neg (fun h => h rfl),decide_eq_false g2]
   rw [fmt_cons l hf] at h1
   exact ih (fun e he => hw e (List.mem_cons_of_mem _ he)) (s:=⟨false,false,k,0,s.out⟩) ⟨rfl,rfl⟩ h1
  | @endC many many' n T s' tr l g1 _ ih =>
   intro hw s hs h1; obtain ⟨a1,a2,a3,a4⟩:=hs
   have w0 : tr = []:=(hw _ List.mem_cons_self).2 rfl
   subst w0; have hf : fev s (evEnd []) = (0,⟨false,s.cl,s.k,s.n,s.out ++ lastB []⟩):=by
    rw [fev_end rfl a1 a2,if_pos a3]
    exact if_pos ok_nil
   rw [fmt_cons l hf] at h1
   exact ih (fun e he => hw e (List.mem_cons_of_mem _ he)) (s:=⟨false,s.cl,s.k,s.n,s.out ++ lastB []⟩) ⟨a1,rfl⟩ h1
theorem G.fmt0 {many many' : Nat} {b b' : Bd} {l : List Ev} (h : G many b l many' b') (hw : ∀ e ∈ l,Wr e) {s : FS} (hs : Ms s b) :
  (Cn.fmt s l).1 = 0 ∧ ∃ ps,Pth many b l ps many' b' ∧ (Cn.fmt s l).2.out = s.out ++ ps.flatten :=
 (h.fmt hs).elim (fun h1 => absurd h1 (h.no hw hs)) id
theorem G.wgt {many many' : Nat} {b b' : Bd} {l : List Ev} (h : G many b l many' b') : (∀ e ∈ l,Wr e) → Cn.wgt l + 8192 * many ≤ 8192 * many' + dsum l + 14 * l.length:=by
 induction h with
 | nil => intro _; show 0 + _ ≤ _ + 0 + _; omega
 | head g1 g2 g3 g4 g5 _ ih =>
  intro hw; have:=ih (fun e he => hw e (List.mem_cons_of_mem _ he))
  rw [wgt_cons,dsum_cons,List.length_cons]
  show 8192 + _ + _ ≤ _ + (0 + _) + _
  omega
 | @data many many' n T s' b l g1 g2 _ ih =>
  intro hw; have:=ih (fun e he => hw e (List.mem_cons_of_mem _ he))
  rw [wgt_cons,dsum_cons,List.length_cons]
  have hc : cost (evData b) = b.length + 14:=rfl
  have hd : (evData b).data.length = b.length:=rfl
  omega
 | @chk many many' n T s' b l g1 g2 _ ih =>
  intro hw; have:=ih (fun e he => hw e (List.mem_cons_of_mem _ he))
  rw [wgt_cons,dsum_cons,List.length_cons]
  have hc : cost (evData b) = b.length + 14:=rfl
  have hd : (evData b).data.length = b.length:=rfl
  omega
 | endL g1 g2 _ ih =>
  intro hw; have:=ih (fun e he => hw e (List.mem_cons_of_mem _ he))
  rw [wgt_cons,dsum_cons,List.length_cons]
  have hc : cost (evEnd []) = 5:=rfl
  have hd : (evEnd []).data.length = 0:=rfl
  omega
 | @endC many many' n T s' tr l g1 _ ih =>
  intro hw; have:=ih (fun e he => hw e (List.mem_cons_of_mem _ he))
  have w0 : tr = []:=(hw _ List.mem_cons_self).2 rfl
  subst w0; rw [wgt_cons,dsum_cons,List.length_cons]
  have hc : cost (evEnd []) = 5:=rfl
  have hd : (evEnd []).data.length = 0:=rfl
  omega
theorem G.many {many many' : Nat} {b b' : Bd} {l : List Ev} (h : G many b l many' b') : many ≤ 64 → many' ≤ 64:=by
 induction h with
 | nil => exact id
 | head g1 g2 g3 g4 g5 _ ih => intro _; exact ih (by omega)
 | data g1 g2 _ ih => exact ih
 | chk g1 g2 _ ih => exact ih
 | endL g1 g2 _ ih => exact ih
 | endC g1 _ ih => exact ih
theorem feed_G : ∀ (l : List (List UInt8)) (c : C),Iv c → c.closed = false → ahead (bd c) = [] → (feed c l).1.err = 0 → G c.many (bd c) (feed c l).2 (feed c l).1.many (bd (feed c l).1) ∧ ahead (bd (feed c l).1) = []
 | [],c,_,_,ha,_ => ⟨.nil,ha⟩
 | b :: l,c,hi,hc,ha,he => by
  have he' : (feed (write c b).1 l).1.err = 0:=he
  have h0 : (write c b).1.err = 0:=by
   apply Decidable.byContradiction
   intro h; have : ∀ (l : List (List UInt8)) (d : C),d.err ≠ 0 → (feed d l).1 = d:=by
    intro l; induction l with
    | nil => intro d _; rfl
    | cons x l ih =>
     intro d hd; show (feed (write d x).1 l).1 = d
     rw [write_bad hd]; exact ih d hd
   rw [this l _ h] at he'
   exact h he'
  obtain ⟨g,hi2,ha2⟩:=write_G hi hc b ha h0
  have hc2 : (write c b).1.closed = false:=by
   by_cases hb : b = []
   ·subst hb; rw [write_none]; exact hc
   ·rw [write_open hi.err hc hb]
    exact (R_keep _ (app c b) (Nat.le_refl _)).1.trans hc
  obtain ⟨g2,ha3⟩:=feed_G l _ hi2 hc2 ha2 he'
  exact ⟨g.app g2,ha3⟩
theorem R_evs2 : ∀ (k : Nat) (c : C),ms c ≤ k → (R c).2.length + 3 * (64 - (R c).1.many) ≤ 3 * (64 - c.many) + (if c.body = true then 2 else 0):=by
 intro k; induction k using Nat.strongRecOn with
 | ind k ih =>
  intro c hk; have hno : ([] : List Ev).length = 0:=rfl
  by_cases h0 : c.err = 0
  ·by_cases hb : c.body = true
   ·have h2 : (pEv c).length ≤ 2:=by
     unfold pEv evs
     rw [List.length_append]
     have h1 : (if pData c = [] then [] else [evData (pData c)]).length ≤ 1:=by split <;> simp
     have h3 : (if pDone c = true then [evEnd (pTr c)] else []).length ≤ 1:=by split <;> simp
     omega
    have e2 : (pC c).many = c.many:=rfl
    rw [if_pos hb]
    by_cases n1 : (pC c).body = true
    ·rw [R_body h0 hb n1]
     show (pEv c).length + 3 * (64 - (pC c).many) ≤ _
     rw [e2]; omega
    ·rw [R_done h0 hb n1]
     have hm:=ms_pC hb n1; have i1:=ih (ms (pC c)) (by omega) (pC c) (Nat.le_refl _); rw [if_neg n1,e2] at i1
     show (pEv c ++ (R (pC c)).2).length + 3 * (64 - (R (pC c)).1.many) ≤ _
     rw [List.length_append]; omega
   ·rw [if_neg hb]
    by_cases hn : c.buf = []
    ·rw [R_nil h0 hb hn]; show 0 + 3 * (64 - c.many) ≤ _; omega
    ·by_cases hwt : wait c
     ·rw [R_wait h0 hb hn hwt]; show 0 + 3 * (64 - c.many) ≤ _; omega
     ·by_cases hs : sE c = 0
      ·have hm:=ms_sC hs
       rw [R_head h0 hb hn hwt hs]
       have i1:=ih (ms (sC c)) (by omega) (sC c) (Nat.le_refl _); have hmn:=(sE_hE hs).2.2.1; have e1 : (sC c).many = c.many + 1:=rfl
       rw [e1] at i1
       show (R (sC c)).2.length + 1 + 3 * (64 - (R (sC c)).1.many) ≤ _
       split at i1 <;> omega
      ·rw [R_bad h0 hb hn hwt hs]; show 0 + 3 * (64 - c.many) ≤ _; omega
  ·rw [R_err h0]; show 0 + 3 * (64 - c.many) ≤ _; omega
theorem feed_evs : ∀ (l : List (List UInt8)) (c : C),(feed c l).2.length + 3 * (64 - (feed c l).1.many) ≤ 3 * (64 - c.many) + 2 * l.length
 | [],c => by show 0 + 3 * (64 - c.many) ≤ _; omega
 | b :: l,c => by
  have h1:=feed_evs l (write c b).1; have h2 : (write c b).2.length + 3 * (64 - (write c b).1.many) ≤ 3 * (64 - c.many) + 2:=by
   unfold write
   split
   ·show 0 + 3 * (64 - c.many) ≤ _; omega
   ·have:=R_evs2 _ (app c b) (Nat.le_refl _)
    have e : (app c b).many = c.many:=rfl
    rw [e] at this
    split at this <;> omega
  show ((write c b).2 ++ (feed (write c b).1 l).2).length + 3 * (64 - (feed (write c b).1 l).1.many) ≤ _
  rw [List.length_append,List.length_cons]; omega
theorem feed_K : ∀ (l : List (List UInt8)) (c : C),Few c → Sml c.dec.fields → c.resp = false → ∀ e ∈ (feed c l).2,EvK e
 | [],_,_,_,_,e,he => by cases he
 | b :: l,c,hf,hs,hr,e,he => by
  obtain ⟨i1,i2,i3,i4⟩:=write_K hf hs hr b
  rcases List.mem_append.1 he with he | he
  ·exact i4 e he
  ·exact feed_K l _ i1 i2 i3 e he
theorem feed_dsum' : ∀ (l : List (List UInt8)) (c : C),dsum (feed c l).2 + (feed c l).1.buf.length ≤ c.buf.length + l.flatten.length
 | [],c => by show 0 + c.buf.length ≤ _; omega
 | b :: l,c => by
  have h1:=write_dsum' c b; have h2:=feed_dsum' l (write c b).1; show dsum ((write c b).2 ++ (feed (write c b).1 l).2) + (feed (write c b).1 l).1.buf.length ≤ _
  rw [dsum_app,List.flatten_cons,List.length_append]; omega
theorem feed_Q (l : List (List UInt8)) (hs : l.flatten.length ≤ 150000) : ∀ e ∈ (feed (new false []) l).2,EvQ e:=fun e he => by
 obtain ⟨a,b,c,d,f,g⟩:=feed_K l (new false []) (Nat.zero_le _) (fun p hp => by cases hp) rfl e he
 have h1:=feed_dsum' l (new false []); have h2:=dsum_mem he; have h3 : (new false []).buf.length = 0:=rfl
 exact ⟨a,b,c,d,by omega,f,g⟩
theorem again_law {x : List UInt8} {A : List Ev} {N : Nat} {ps : List (List UInt8)} (hp : Pth 0 none A ps N none) (hx : ps.flatten = x) (hA : ∀ e ∈ A,Wr e) (hl : x.length ≤ 150000) (zs ys : List UInt8) (hz : zs.length ≤ 200) :
  (feed (new false []) (cuts x zs)).1.err = 0 ∧ gathered (feed (new false []) (cuts x zs)).2 = gathered A ∧ (fmt fs0 (feed (new false []) (cuts x zs)).2).1 = 0 ∧ (fmt fs0 (feed (new false []) (cuts x zs)).2).2.out.length ≤ 700000 ∧
  (feed (new false []) (cuts (fmt fs0 (feed (new false []) (cuts x zs)).2).2.out ys)).1.err = 0 ∧ gathered (feed (new false []) (cuts (fmt fs0 (feed (new false []) (cuts x zs)).2).2.out ys)).2 = gathered A ∧ (feed (new false []) (cuts x zs)).2.length ≤ 600:=by
 have key : ∀ {B : List Ev} {M : Nat} {s : Bd} {qs : List (List UInt8)} (ws : List UInt8),Pth 0 none B qs M s → ahead s = [] → (feed (new false []) (cuts qs.flatten ws)).1.err = 0 ∧ J (feed (new false []) (cuts qs.flatten ws)).2 B:=by
  intro B M s qs ws hq hs; obtain ⟨i1,i2⟩:=hq.feed new_mt
  have i1' : (feed (new false []) qs).2 = B:=by
   have : [] ++ (feed (new false []) qs).2 = B ++ ahead s:=i1
   rw [hs,List.append_nil,List.nil_append] at this
   exact this
  have h1:=Fed.feed (c0:=new false []) rfl qs (new_fed false []); have h2:=Fed.feed (c0:=new false []) rfl (cuts qs.flatten ws) (new_fed false []); simp only [List.nil_append,cuts_flat] at h1 h2
  refine ⟨h2.err.symm.trans (h1.err.trans i2.err),?_⟩
  rw [← i1']
  exact h2.ev.symm.trans h1.ev
 obtain ⟨k1,k2⟩:=key zs hp rfl
 rw [hx] at k1 k2
 have hG:=feed_G (cuts x zs) (new false []) new_iv rfl rfl k1; have hW : ∀ e ∈ (feed (new false []) (cuts x zs)).2,Wr e:=fun e he => by
  refine ⟨fun h => ?_,fun h => ?_⟩
  ·exact (hA e ((mem_J k2 (by omega)).1 he)).1 h
  ·exact (hA e ((mem_J k2 (by omega)).1 he)).2 h
 have hev:=feed_evs (cuts x zs) (new false []); have hcl:=cuts_len zs x; have hlen : (feed (new false []) (cuts x zs)).2.length ≤ 600:=by
  have e0 : (new false []).many = 0:=rfl
  rw [e0] at hev
  omega
 obtain ⟨f1,qs,f2,f3⟩:=hG.1.fmt0 hW (s:=fs0) ⟨rfl,rfl⟩
 have f3' : (fmt fs0 (feed (new false []) (cuts x zs)).2).2.out = qs.flatten:=f3
 have f2' : Pth 0 none (feed (new false []) (cuts x zs)).2 qs (feed (new false []) (cuts x zs)).1.many (bd (feed (new false []) (cuts x zs)).1):=f2
 obtain ⟨m1,m2⟩:=key ys f2' hG.2
 rw [← f3'] at m1 m2
 refine ⟨k1,gathered_J k2,f1,?_,m1,(gathered_J m2).trans (gathered_J k2),hlen⟩
 have w1:=fmt_len _ fs0 (feed_Q (cuts x zs) (by rw [cuts_flat]; exact hl)) f1
 have w2:=hG.1.wgt hW; have w3:=hG.1.many (Nat.zero_le _); have w4:=feed_dsum' (cuts x zs) (new false []); rw [cuts_flat] at w4
 have e1 : fs0.out.length = 0:=rfl
 have e2 : (new false []).buf.length = 0:=rfl
 have e3 : (new false []).many = 0:=rfl
 rw [e3] at w2
 omega
theorem Pth.app {a b c : Nat} {s s' s'' : Bd} {l m : List Ev} {ps qs : List (List UInt8)} (h : Pth a s l ps b s') (h2 : Pth b s' m qs c s'') : Pth a s (l ++ m) (ps ++ qs) c s'':=by
 induction h with
 | nil => exact h2
 | head h1 h3 h4 h5 _ ih => exact .head h1 h3 h4 h5 (ih h2)
 | data h1 h3 h4 _ ih => exact .data h1 h3 h4 (ih h2)
 | chk h1 h3 _ ih => exact .chk h1 h3 (ih h2)
 | endL h1 _ ih => exact .endL h1 (ih h2)
 | endC h1 _ ih => exact .endC h1 (ih h2)
end Cn
end Go.Proofs.YtjffffpfejmoiaaGreatDoor
namespace Go.Proofs.YtjffffpfejmoiaaGreatDoor
open Go.RowKit Syn Hd Fr Ck
namespace Cn
structure Msg where
 m : List UInt8
 t : List UInt8
 fl : Flds
 body : List UInt8
 ch : Bool
 sz : List UInt8
def hostA : List UInt8 × List UInt8:=(hostN,[97,46,101,120,97,109,112,108,101])
def chB : List UInt8:=[99,104,117,110,107,101,100]
def kept (p : List UInt8 × List UInt8) : Bool:=decide (nmE p.1 = 0) && (decide (nmV p.1 ≠ Fr.cl) && (decide (nmV p.1 ≠ Fr.te) && decide (nmV p.1 ≠ hostN)))
def mf (M : Msg) : Flds:=(M.fl.filter kept ++ [hostA]) ++ (if M.ch = true then [(Fr.te,chB)] else if M.body ≠ [] then [(Fr.cl,dg M.body.length)] else [])
def mEnc (M : Msg) : List UInt8:=if M.ch = true then chks (cuts M.body M.sz) ++ lastB [] else M.body
def mB (M : Msg) : List UInt8:=if wqE M.m M.t (mf M) = 0 then wqB M.m M.t (mf M) ++ mEnc M else []
theorem allV_app (a b : Flds) (n : List UInt8) : allV (a ++ b) n = allV a n ++ allV b n:=by unfold allV; rw [List.filter_append,List.map_append]
theorem allV_one (p : List UInt8 × List UInt8) (n : List UInt8) : allV [p] n = if Syn.lower p.1 = Syn.lower n then [p.2] else []:=by
 unfold allV
 by_cases h : Syn.lower p.1 = Syn.lower n
 ·rw [if_pos h,List.filter_cons_of_pos (by simpa using h)]; rfl
 ·rw [if_neg h,List.filter_cons_of_neg (by simpa using h)]; rfl
theorem cl_low : Syn.lower Fr.cl = Fr.cl:=by decide
theorem te_low : Syn.lower Fr.te = Fr.te:=by decide
theorem ho_low : Syn.lower hostN = hostN:=by decide
theorem allV_kept {l : Flds} {n : List UInt8} (hn : n = Fr.cl ∨ n = Fr.te) : allV (l.filter kept) n = []:=by
 unfold allV
 rw [List.filter_eq_nil_iff.2 (fun p hp => ?_)]
 ·rfl
 ·have hk:=(List.mem_filter.1 hp).2
  unfold kept at hk
  simp only [Bool.and_eq_true,decide_eq_true_eq] at hk
  obtain ⟨h1,h2,h3,h4⟩:=hk
  have hv : nmV p.1 = Syn.lower p.1:=if_pos h1
  rw [hv] at h2 h3
  rw [decide_eq_true_eq]
  rcases hn with rfl | rfl
  ·rw [cl_low]; exact h2
  ·rw [te_low]; exact h3
theorem allV_rep {n v : List UInt8} (hn : Syn.lower n ≠ hostN) : ∀ r : Flds,allV (r.map (rep hostN v)) n = allV r n
 | [] => rfl
 | p :: r => by
  have ih:=allV_rep (v:=v) hn r; rw [List.map_cons,allV_cons,allV_cons,ih]
  by_cases hp : Syn.lower p.1 = hostN
  ·rw [show rep hostN v p = (hostN,v) from if_pos hp,if_neg (by rw [ho_low]; exact fun e => hn e.symm),if_neg (by rw [hp]; exact fun e => hn e.symm)]
  ·rw [show rep hostN v p = p from if_neg hp]
theorem allV_wqL {l : Flds} {n : List UInt8} (hok : okCs l = true) (hn : Syn.lower n ≠ hostN) : allV (wqL l) n = allV l n:=by
 unfold wqL
 rw [allV_rep hn,allV_can n hok]
theorem wqE_okCs {m t : List UInt8} {l : Flds} (h : wqE m t l = 0) : okCs l = true ∧ ∃ x,hsX l = some x:=by
 unfold wqE at h
 split at h
 ·cases h
 ·split at h
  ·cases h
  ·split at h
   ·cases h
   ·split at h
    ·cases h
    ·rename_i h4
     split at h
     ·cases h
     ·rename_i h5
      refine ⟨by simpa using h4,?_⟩
      cases hx : hsX l with
      | none => exact absurd hx h5
      | some x => exact ⟨x,rfl⟩
theorem mf_frame {M : Msg} (h : wqE M.m M.t (mf M) = 0) (hb : M.body.length ≤ 300) :
  frame 1 (wqL (mf M)) = if M.ch = true then ((3,0),0) else if M.body ≠ [] then ((2,M.body.length),0) else ((1,0),0):=by
 have hok:=(wqE_okCs h).1; have hc:=allV_wqL (n:=Fr.cl) hok (by decide); have ht:=allV_wqL (n:=Fr.te) hok (by decide); have e1 : ∀ n,n = Fr.cl ∨ n = Fr.te → allV (M.fl.filter kept ++ [hostA]) n = []:=fun n hn => by
  rw [allV_app,allV_kept hn,allV_one,if_neg]
  ·rfl
  ·rcases hn with rfl | rfl <;> decide
 unfold mf at hc ht
 rw [allV_app,e1 _ (.inl rfl),List.nil_append] at hc
 rw [allV_app,e1 _ (.inr rfl),List.nil_append] at ht
 have hc' : allV (wqL (mf M)) Fr.cl = _:=hc
 have ht' : allV (wqL (mf M)) Fr.te = _:=ht
 cases hch : M.ch with
 | true =>
  rw [hch,if_pos rfl,allV_one,if_neg (by decide)] at hc'
  rw [hch,if_pos rfl,allV_one,if_pos rfl] at ht'
  rw [if_pos rfl,frame_te (by rw [hc']; decide) (by rw [ht']; decide),ht']
  decide +kernel
 | false =>
  rw [if_neg (by decide)]
  by_cases hbd : M.body = []
  ·rw [hch,if_neg (by decide),if_neg (fun h => h hbd)] at hc' ht'
   rw [if_neg (fun h => h hbd),frame_none (by rw [hc']; decide) (by rw [ht']; decide)]
  ·rw [hch,if_neg (by decide),if_pos hbd,allV_one,if_pos rfl] at hc'
   rw [hch,if_neg (by decide),if_pos hbd,allV_one,if_neg (show ¬ Syn.lower Fr.cl = Syn.lower Fr.te by decide)] at ht'
   have hv : elemsGo [] [dg M.body.length] = some [dg M.body.length]:=by
    rw [elemsGo_cons,(Open.first M.body.length).list]; rfl
   have hn:=dg_number (n:=M.body.length) (by omega); rw [if_pos hbd,frame_cl (by rw [hc']; show 0 < 1; decide) (by rw [ht']; decide),hc',hv,frameL_cons,if_pos (by simp)]
   unfold lengthOf
   rw [hn]
   show (if 65536 < M.body.length then _ else _) = _
   rw [if_neg (by omega)]
theorem wqE_again {m t : List UInt8} {l : Flds} (h : wqE m t l = 0) : wqE m t (wqL l) = 0:=by
 obtain ⟨r1,r2,r3,r4,-⟩:=req_back [] h
 rw [List.append_nil] at r1 r2 r3 r4
 obtain ⟨n,-,-,-,-,r5,-,-⟩:=rq_read r1
 rw [r2,r3,r4] at r5
 rcases r5 with r5 | ⟨r5,-⟩
 ·exact r5
 ·exfalso
  obtain ⟨x,hx⟩:=(wqE_okCs h).2
  obtain ⟨-,-,-,-,hln,hle⟩:=wq_fields (wqE_okCs h).1 hx
  have hL : largeB (m.length + t.length + 10) (wqL l) = largeB (m.length + t.length + 10) l:=by unfold largeB; rw [hln,hle]
  have hf : largeB (m.length + t.length + 10) l = false:=by
   cases hh : largeB (m.length + t.length + 10) l with
   | false => rfl
   | true => unfold wqE at h; rw [if_pos hh] at h; cases h
  unfold wqE at r5
  rw [hL,hf,if_neg (by decide)] at r5
  split at r5
  ·cases r5
  ·split at r5
   ·cases r5
   ·split at r5
    ·cases r5
    ·split at r5 <;> cases r5
def mEv (M : Msg) : List Ev:=evReq M.m M.t (wqL (mf M)) :: (if M.ch = true then (cuts M.body M.sz).map evData ++ [evEnd []] else if M.body ≠ [] then [evData M.body,evEnd []] else [evEnd []])
def mPs (M : Msg) : List (List UInt8):=wqB M.m M.t (mf M) :: (if M.ch = true then (cuts M.body M.sz).map Ck.chk ++ [lastB []] else if M.body ≠ [] then [M.body] else [])
theorem chks_flat : ∀ ps : List (List UInt8),(ps.map Ck.chk).flatten = chks ps
 | [] => rfl
 | p :: r => by rw [List.map_cons,List.flatten_cons,chks_flat r]; rfl
theorem mPs_flat {M : Msg} (h : wqE M.m M.t (mf M) = 0) : (mPs M).flatten = mB M:=by
 unfold mPs mB mEnc
 rw [if_pos h,List.flatten_cons]
 congr 1
 cases M.ch with
 | true => rw [if_pos rfl,if_pos rfl,List.flatten_append,chks_flat]; simp
 | false =>
  have hf : ¬ false = true:=by decide
  rw [if_neg hf,if_neg hf]
  by_cases hb : M.body = []
  ·rw [if_neg (fun h => h hb),hb]; rfl
  ·rw [if_pos hb]; simp
theorem Pth.parts {k n : Nat} : ∀ (ps : List (List UInt8)) (T : Nat),(∀ x ∈ ps,x ≠ []) → T + ps.flatten.length ≤ 65536 → Pth k (some (3,n,T)) (ps.map evData ++ [evEnd []]) (ps.map Ck.chk ++ [lastB []]) k none
 | [],T,_,_ => Pth.endC (tr:=[]) ok_nil .nil
 | p :: r,T,h1,h2 => by
  rw [List.flatten_cons,List.length_append] at h2
  exact .chk (h1 p List.mem_cons_self) (by omega) (Pth.parts r _ (fun x hx => h1 x (List.mem_cons_of_mem _ hx)) (by omega))
theorem mPth {M : Msg} {k : Nat} (h : wqE M.m M.t (mf M) = 0) (hb : M.body.length ≤ 300) (hk : k < 64) : Pth k none (mEv M) (mPs M) (k + 1) none:=by
 have hf:=mf_frame h hb; unfold mEv mPs
 cases hch : M.ch with
 | true =>
  rw [hch,if_pos rfl] at hf
  rw [if_pos rfl,if_pos rfl]
  exact .head h hf (by decide) hk (Pth.parts _ 0 (cuts_ne M.sz M.body) (by rw [cuts_flat]; omega))
 | false =>
  have hff : ¬ false = true:=by decide
  rw [hch,if_neg hff] at hf
  rw [if_neg hff,if_neg hff]
  by_cases hbd : M.body = []
  ·rw [if_neg (fun h => h hbd)] at hf
   rw [if_neg (fun h => h hbd),if_neg (fun h => h hbd)]
   exact .head h hf (by decide) hk (.endL (by decide) .nil)
  ·rw [if_pos hbd] at hf
   rw [if_pos hbd,if_pos hbd]
   refine .head h hf (by decide) hk (.data (by decide) hbd (Nat.le_refl _) ?_)
   rw [Nat.sub_self]
   exact .endL (by decide) .nil
def mRq (M : Msg) : Rq:=⟨M.m,M.t,wqL (mf M),M.body,true⟩
theorem gath_parts : ∀ (ps : List (List UInt8)) (o : List Rq) (r : Rq),(ps.map evData ++ [evEnd []]).foldl gath (o ++ [r]) = o ++ [{ r with body:=r.body ++ ps.flatten,ended:=true }]
 | [],o,r => by
  show gath (o ++ [r]) (evEnd []) = _
  rw [gath_end (by decide) (by decide)]
  simp
 | p :: ps,o,r => by
  show (ps.map evData ++ [evEnd []]).foldl gath (gath (o ++ [r]) (evData p)) = _
  rw [gath_data rfl,gath_parts ps]
  simp [evData]
theorem gath_msg (M : Msg) (o : List Rq) : (mEv M).foldl gath o = o ++ [mRq M]:=by
 have h0 : ∀ l,(evReq M.m M.t (wqL (mf M)) :: l).foldl gath o = l.foldl gath (o ++ [⟨M.m,M.t,wqL (mf M),[],false⟩]):=fun l => by
  rw [List.foldl_cons,gath_head rfl]; rfl
 unfold mEv mRq
 rw [h0]
 cases M.ch with
 | true => rw [if_pos rfl,gath_parts,cuts_flat]; rfl
 | false =>
  have hff : ¬ false = true:=by decide
  rw [if_neg hff]
  split
  ·have:=gath_parts [M.body] o ⟨M.m,M.t,wqL (mf M),[],false⟩
   simpa using this
  ·rename_i hb
   have:=gath_parts [] o ⟨M.m,M.t,wqL (mf M),[],false⟩
   rw [Decidable.not_not.1 hb]
   simpa using this
theorem mEv_wr {M : Msg} (h : wqE M.m M.t (mf M) = 0) : ∀ e ∈ mEv M,Wr e:=by
 have hd : ∀ b,Wr (evData b):=fun b => ⟨fun h => (by cases h),fun h => (by cases h)⟩
 have he : Wr (evEnd []):=⟨fun h => (by cases h),fun _ => rfl⟩
 intro e hm; unfold mEv at hm
 rcases List.mem_cons.1 hm with rfl | hm
 ·exact ⟨fun _ => wqE_again h,fun h => by cases h⟩
 ·split at hm
  ·rcases List.mem_append.1 hm with hm | hm
   ·obtain ⟨b,-,rfl⟩:=List.mem_map.1 hm
    exact hd b
   ·obtain rfl:=List.mem_singleton.1 hm
    exact he
  ·split at hm
   ·rcases List.mem_cons.1 hm with rfl | hm
    ·exact hd _
    ·obtain rfl:=List.mem_singleton.1 hm
     exact he
   ·obtain rfl:=List.mem_singleton.1 hm
    exact he
def wants (l : List Msg) : List Msg:=l.filter fun M => decide (wqE M.m M.t (mf M) = 0)
def allB (l : List Msg) : List UInt8:=(wants l).flatMap mB
theorem wants_path : ∀ (l : List Msg) (k : Nat),(∀ M ∈ l,wqE M.m M.t (mf M) = 0 ∧ M.body.length ≤ 300) → k + l.length ≤ 64 →
  ∃ N ps,Pth k none (l.flatMap mEv) ps N none ∧ ps.flatten = l.flatMap mB
 | [],k,_,_ => ⟨k,[],.nil,rfl⟩
 | M :: l,k,h,hk => by
  obtain ⟨h1,h2⟩:=h M List.mem_cons_self
  rw [List.length_cons] at hk
  obtain ⟨N,ps,p1,p2⟩:=wants_path l (k + 1) (fun x hx => h x (List.mem_cons_of_mem _ hx)) (by omega)
  refine ⟨N,mPs M ++ ps,?_,?_⟩
  ·rw [List.flatMap_cons]
   exact (mPth h1 h2 (by omega)).app p1
  ·rw [List.flatten_append,mPs_flat h1,p2,List.flatMap_cons]
theorem wants_gath : ∀ (l : List Msg) (o : List Rq),(l.flatMap mEv).foldl gath o = o ++ l.map mRq
 | [],o => by simp
 | M :: l,o => by
  rw [List.flatMap_cons,List.foldl_append,gath_msg,wants_gath l]
  simp
theorem chk_le (b : List UInt8) (h : b.length ≤ 300) : (Ck.chk b).length ≤ 8 * b.length:=by
 unfold Ck.chk
 split
 ·exact Nat.zero_le _
 ·rename_i hb
  have h0:=List.length_pos_iff.2 hb; have:=hexs_len 2 b.length (by omega)
  simp only [List.length_append,List.length_cons,List.length_nil]
  by_cases h16 : b.length < 16
  ·rw [hexs_small h16]; simp only [List.length_cons,List.length_nil]; omega
  ·omega
theorem chks_le : ∀ (ps : List (List UInt8)),ps.flatten.length ≤ 300 → (chks ps).length ≤ 8 * ps.flatten.length
 | [],_ => Nat.zero_le _
 | p :: r,h => by
  rw [List.flatten_cons,List.length_append] at h ⊢
  have h1:=chk_le p (by omega); have h2:=chks_le r (by omega); have e : chks (p :: r) = Ck.chk p ++ chks r:=rfl
  rw [e,List.length_append]; omega
theorem mB_len {M : Msg} (hb : M.body.length ≤ 300) : (mB M).length ≤ 11000:=by
 unfold mB
 split
 ·rw [List.length_append]
  have h1:=wqB_len (m:=M.m) (t:=M.t) (f:=mf M); have h2 : (mEnc M).length ≤ 2500:=by
   unfold mEnc
   split
   ·have h3:=chks_le (cuts M.body M.sz) (by rw [cuts_flat]; exact hb)
    rw [cuts_flat] at h3
    have h4 : (lastB []).length = 5:=rfl
    rw [List.length_append]; omega
   ·omega
  omega
 ·exact Nat.zero_le _
theorem flat_len : ∀ (l : List Msg),(∀ M ∈ l,M.body.length ≤ 300) → (l.flatMap mB).length ≤ 11000 * l.length
 | [],_ => Nat.zero_le _
 | M :: l,h => by
  have h1:=mB_len (h M List.mem_cons_self); have h2:=flat_len l (fun x hx => h x (List.mem_cons_of_mem _ hx)); rw [List.flatMap_cons,List.length_append,List.length_cons]; omega
theorem wire_law (l : List Msg) (hl : l.length ≤ 8) (hb : ∀ M ∈ l,M.body.length ≤ 300) (zs ys : List UInt8) (hz : zs.length ≤ 200) :
  (feed (new false []) (cuts (allB l) zs)).1.err = 0 ∧ gathered (feed (new false []) (cuts (allB l) zs)).2 = (wants l).map mRq ∧ (fmt fs0 (feed (new false []) (cuts (allB l) zs)).2).1 = 0 ∧ (fmt fs0 (feed (new false []) (cuts (allB l) zs)).2).2.out.length ≤ 700000 ∧
  (feed (new false []) (cuts (fmt fs0 (feed (new false []) (cuts (allB l) zs)).2).2.out ys)).1.err = 0 ∧ gathered (feed (new false []) (cuts (fmt fs0 (feed (new false []) (cuts (allB l) zs)).2).2.out ys)).2 = (wants l).map mRq ∧ (feed (new false []) (cuts (allB l) zs)).2.length ≤ 600 ∧ (allB l).length ≤ 88000:=by
 have hw : ∀ M ∈ wants l,wqE M.m M.t (mf M) = 0 ∧ M.body.length ≤ 300:=fun M hM => ⟨of_decide_eq_true (List.mem_filter.1 hM).2,hb M (List.mem_filter.1 hM).1⟩
 have hwl : (wants l).length ≤ 8:=Nat.le_trans (List.length_filter_le _ _) hl
 obtain ⟨N,ps,p1,p2⟩:=wants_path (wants l) 0 hw (by omega)
 have hA : ∀ e ∈ (wants l).flatMap mEv,Wr e:=fun e he => by
  obtain ⟨M,hM,he⟩:=List.mem_flatMap.1 he
  exact mEv_wr (hw M hM).1 e he
 have hfl:=flat_len (wants l) (fun M hM => (hw M hM).2); have hlen : (allB l).length ≤ 88000:=by unfold allB; omega
 obtain ⟨a,b,c,d,e,f,g⟩:=again_law p1 p2 hA (by show (allB l).length ≤ 150000; omega) zs ys hz
 have hg : gathered ((wants l).flatMap mEv) = (wants l).map mRq:=by
  have:=wants_gath (wants l) []
  exact this
 rw [hg] at b f
 exact ⟨a,b,c,d,e,f,g,hlen⟩
end Cn
end Go.Proofs.YtjffffpfejmoiaaGreatDoor
