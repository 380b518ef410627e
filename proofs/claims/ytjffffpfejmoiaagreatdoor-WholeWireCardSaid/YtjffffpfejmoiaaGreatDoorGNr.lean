import Derived.Test.YtjffffpfejmoiaaGreatDoorNFmtW
import Derived.Test.YtjffffpfejmoiaaGreatDoorDJoin
namespace Go.Proofs.YtjffffpfejmoiaaGreatDoor
open Go.RowKit Syn Hd Fr Ck
namespace Cn
theorem dsum_evs' (d : List UInt8) (dn : Bool) (tr : Flds) : dsum (evs d dn tr) = d.length:=by
 unfold evs
 rw [dsum_app]
 have h1 : dsum (if d = [] then [] else [evData d]) = d.length:=by
  split
  ·rename_i h; subst h; rfl
  ·exact dsum_one _
 have h2 : dsum (if dn = true then [evEnd tr] else []) = 0:=by split <;> rfl
 omega
theorem pC_dsum' (c : C) : dsum (pEv c) + (pBuf c).length ≤ c.buf.length:=by
 unfold pEv
 rw [dsum_evs']
 unfold pData pBuf
 by_cases h4 : c.kind = 4
 ·rw [if_pos h4,if_pos h4]; exact Nat.le_refl _
 ·rw [if_neg h4,if_neg h4]
  by_cases h3 : c.kind = 3
  ·rw [if_pos h3,if_pos h3,List.length_drop]
   have a:=wr_data_count c.buf c.dec; have b:=wr_count c.buf c.dec; omega
  ·rw [if_neg h3,if_neg h3,List.length_take,List.length_drop]; omega
theorem R_dsum' : ∀ (k : Nat) (c : C),ms c ≤ k → dsum (R c).2 + (R c).1.buf.length ≤ c.buf.length:=by
 intro k; induction k using Nat.strongRecOn with
 | ind k ih =>
  intro c hk; have h00 : dsum ([] : List Ev) = 0:=rfl
  by_cases h0 : c.err = 0
  ·by_cases hb : c.body = true
   ·have hp:=pC_dsum' c
    by_cases n1 : (pC c).body = true
    ·rw [R_body h0 hb n1]
     exact hp
    ·rw [R_done h0 hb n1]
     have hm:=ms_pC hb n1; have:=ih (ms (pC c)) (by omega) (pC c) (Nat.le_refl _)
     have hb2 : (pC c).buf = pBuf c:=rfl
     rw [hb2] at this
     show dsum (pEv c ++ (R (pC c)).2) + (R (pC c)).1.buf.length ≤ _
     rw [dsum_app]; omega
   ·by_cases hn : c.buf = []
    ·rw [R_nil h0 hb hn]; show dsum [] + c.buf.length ≤ _; omega
    ·by_cases hw : wait c
     ·rw [R_wait h0 hb hn hw]; show dsum [] + c.buf.length ≤ _; omega
     ·by_cases hs : sE c = 0
      ·have hm:=ms_sC hs
       rw [R_head h0 hb hn hw hs]
       have:=ih (ms (sC c)) (by omega) (sC c) (Nat.le_refl _)
       have hd : (hEv c).data = []:=by unfold hEv; split <;> rfl
       show dsum (hEv c :: (R (sC c)).2) + (R (sC c)).1.buf.length ≤ _
       rw [dsum_cons,hd]
       have:=hm.2
       show 0 + _ + _ ≤ _
       omega
      ·rw [R_bad h0 hb hn hw hs]; show dsum [] + c.buf.length ≤ _; omega
  ·rw [R_err h0]; show dsum [] + c.buf.length ≤ _; omega
theorem write_dsum' (c : C) (b : List UInt8) : dsum (write c b).2 + (write c b).1.buf.length ≤ c.buf.length + b.length:=by
 unfold write
 split
 ·show dsum [] + c.buf.length ≤ _
  have h00 : dsum ([] : List Ev) = 0:=rfl
  omega
 ·have h:=R_dsum' _ (app c b) (Nat.le_refl _)
  have e : (app c b).buf.length = c.buf.length + b.length:=List.length_append
  omega
def Sml (l : Flds) : Prop:=∀ p ∈ l,p.1.length ≤ 100000 ∧ p.2.length ≤ 100000
theorem fline_sml {x : List UInt8} {f : List UInt8 × List UInt8} (h : fline x = some f) : f.1.length ≤ 100000 ∧ f.2.length ≤ 100000:=by
 unfold fline at h
 split at h
 ·cases h
 ·split at h
  ·rename_i h1
   cases h
   exact ⟨Nat.le_trans (nmV_len _) (by decide),Nat.le_trans (vlV_len h1.2.1) (by decide)⟩
  ·cases h
theorem step_sml {s : St} (c : UInt8) (h : Sml s.fields) : Sml (Ck.step s c).fields:=by
 unfold Ck.step
 repeat' split
 all_goals first
  | (rw [sized_flds]; exact h)
  | exact h
  | skip
 unfold ended
 repeat' split
 all_goals first
  | exact h
  | skip
 rename_i f hf _
 intro p hp; have hp' : p ∈ s.fields ++ [f]:=hp
 rcases List.mem_append.1 hp' with hp | hp
 ·exact h p hp
 ·obtain rfl:=List.mem_singleton.1 hp
  exact fline_sml hf
theorem wr_sml : ∀ (l : List UInt8) (s : St),Sml s.fields → Sml (wr s l).1.fields
 | [],s,h => h
 | c :: r,s,h => by
  unfold wr
  split
  ·exact h
  ·split
   ·exact step_sml c h
   ·exact wr_sml r _ (step_sml c h)
structure EvK (e : Ev) : Prop where
 kind : e.kind = 1 ∨ e.kind = 2 ∨ e.kind = 3
 m : e.kind = 1 → e.m ≠ []
 mt : e.m.length + e.t.length ≤ 50000
 rf : Fr.Few e.rf
 trl : e.tr.length ≤ 1000
 tr : Sml e.tr
theorem few_nil : Fr.Few ([] : Flds):=⟨Nat.zero_le _,fun p hp => by cases hp⟩
theorem hEv_K {c : C} (hr : c.resp = false) (h : hE c = 0) : EvK (hEv c):=by
 have h1 : rqE c.buf = 0:=by unfold hE at h; rwa [if_neg (by rw [hr]; decide)] at h
 have he : hEv c = evReq (rqM c.buf) (rqT c.buf) (rqL c.buf):=by unfold hEv; rw [if_neg (by rw [hr]; decide)]
 rw [he]
 obtain ⟨n,-,-,-,-,-,-,r1,r2,-⟩:=rq_read h1
 refine ⟨.inl rfl,fun _ e => ?_,by show (rqM c.buf).length + (rqT c.buf).length ≤ _; omega,few_rq h1,Nat.zero_le _,fun p hp => by cases hp⟩
 have e' : rqM c.buf = []:=e
 have hx : rqX (lnL c.buf) = 0:=by unfold rqE at h1; rwa [if_pos (rqE_ok h1)] at h1
 have hm : mthB (rqM c.buf) = true:=by
  cases hh : mthB (rqM c.buf) with
  | true => rfl
  | false =>
   unfold rqX at hx
   have hh' : mthB (rlM ((lnL c.buf).headD [])) = false:=hh
   rw [if_pos hh'] at hx; cases hx
 rw [e'] at hm
 cases hm
theorem evs_K {d : List UInt8} {dn : Bool} {tr : Flds} (h : tr.length ≤ 1000) (hs : Sml tr) : ∀ e ∈ evs d dn tr,EvK e:=by
 have hno : Sml []:=fun p hp => by cases hp
 intro e he; unfold evs at he
 rcases List.mem_append.1 he with he | he
 ·split at he
  ·cases he
  ·obtain rfl:=List.mem_singleton.1 he
   exact ⟨.inr (.inl rfl),fun h => (by cases h),Nat.zero_le _,few_nil,Nat.zero_le _,hno⟩
 ·split at he
  ·obtain rfl:=List.mem_singleton.1 he
   exact ⟨.inr (.inr rfl),fun h => (by cases h),Nat.zero_le _,few_nil,h,hs⟩
  ·cases he
theorem R_K : ∀ (k : Nat) (c : C),ms c ≤ k → Few c → Sml c.dec.fields → c.resp = false → Few (R c).1 ∧ Sml (R c).1.dec.fields ∧ (R c).1.resp = false ∧ ∀ e ∈ (R c).2,EvK e:=by
 intro k; induction k using Nat.strongRecOn with
 | ind k ih =>
  intro c hk hf hs hr; have hno : ∀ e ∈ ([] : List Ev),EvK e:=fun e he => by cases he
  by_cases h0 : c.err = 0
  ·by_cases hb : c.body = true
   ·have h1 : (pTr c).length ≤ 1000:=by
     unfold pTr
     split
     ·have:=wr_few c.buf c.dec hf; omega
     ·exact Nat.zero_le _
    have h2 : Sml (pTr c):=by
     unfold pTr
     split
     ·exact wr_sml _ _ hs
     ·intro p hp; cases hp
    have h3 : Few (pC c):=(pC_few hf).1
    have h4 : Sml (pC c).dec.fields:=by
     show Sml (pDec c).fields
     unfold pDec
     split
     ·exact wr_sml _ _ hs
     ·exact hs
    have hp:=evs_K (d:=pData c) (dn:=pDone c) h1 h2; by_cases n1 : (pC c).body = true
    ·rw [R_body h0 hb n1]
     exact ⟨h3,h4,hr,hp⟩
    ·rw [R_done h0 hb n1]
     have hm:=ms_pC hb n1; obtain ⟨i1,i2,i3,i4⟩:=ih (ms (pC c)) (by omega) (pC c) (Nat.le_refl _) h3 h4 hr
     exact ⟨i1,i2,i3,fun e he => (List.mem_append.1 he).elim (hp e) (i4 e)⟩
   ·by_cases hn : c.buf = []
    ·rw [R_nil h0 hb hn]; exact ⟨hf,hs,hr,hno⟩
    ·by_cases hw : wait c
     ·rw [R_wait h0 hb hn hw]; exact ⟨hf,hs,hr,hno⟩
     ·by_cases hse : sE c = 0
      ·have hm:=ms_sC hse
       rw [R_head h0 hb hn hw hse]
       obtain ⟨i1,i2,i3,i4⟩:=ih (ms (sC c)) (by omega) (sC c) (Nat.le_refl _) (sC_few c) (fun p hp => by cases hp) hr
       refine ⟨i1,i2,i3,fun e he => ?_⟩
       rcases List.mem_cons.1 he with rfl | he
       ·exact hEv_K hr (sE_hE hse).1
       ·exact i4 e he
      ·rw [R_bad h0 hb hn hw hse]; exact ⟨hf,hs,hr,hno⟩
  ·rw [R_err h0]; exact ⟨hf,hs,hr,hno⟩
theorem write_K {c : C} (hf : Few c) (hs : Sml c.dec.fields) (hr : c.resp = false) (b : List UInt8) : Few (write c b).1 ∧ Sml (write c b).1.dec.fields ∧ (write c b).1.resp = false ∧ ∀ e ∈ (write c b).2,EvK e:=by
 unfold write
 split
 ·exact ⟨hf,hs,hr,fun e he => by cases he⟩
 ·exact R_K _ (app c b) (Nat.le_refl _) hf hs hr
theorem dsum_mem : ∀ {l : List Ev} {e : Ev},e ∈ l → e.data.length ≤ dsum l
 | x :: l,e,h => by
  rw [dsum_cons]
  rcases List.mem_cons.1 h with rfl | h
  ·omega
  ·have:=dsum_mem h; omega
end Cn
end Go.Proofs.YtjffffpfejmoiaaGreatDoor
namespace Go.Proofs.YtjffffpfejmoiaaGreatDoor
open Go.RowKit Syn Hd Fr Ck
namespace Cn
def cost (e : Ev) : Nat:=if e.kind = 1 then 8192 else if e.kind = 2 then e.data.length + 14 else (Ck.txt e.tr).length + 5
def wgt (l : List Ev) : Nat:=(l.map cost).sum
theorem wgt_cons (e : Ev) (l : List Ev) : wgt (e :: l) = cost e + wgt l:=by simp [wgt]
theorem fev_len {s s' : FS} {e : Ev} (hk : e.kind = 1 ∨ e.kind = 2 ∨ e.kind = 3) (hd : e.data.length ≤ 150000) (h : fev s e = (0,s')) : s'.out.length ≤ s.out.length + cost e:=by
 unfold fev at h
 split at h
 ·cases h
 ·unfold cost
  rcases hk with k1 | k2 | k3
  ·rw [if_pos k1] at h ⊢
   split at h
   ·rename_i h1; exact absurd (congrArg Prod.fst h) h1
   ·split at h
    ·rename_i h1; exact absurd (congrArg Prod.fst h) h1
    ·cases h
     show (s.out ++ _).length ≤ _
     rw [List.length_append]
     have:=wqB_len (m:=e.m) (t:=e.t) (f:=e.rf)
     omega
  ·rw [if_neg (by omega),if_pos k2] at h ⊢
   have hc:=chk_len e.data hd; split at h
   ·cases h
    show (s.out ++ _).length ≤ _
    rw [List.length_append]; omega
   ·split at h
    ·cases h
    ·split at h
     ·cases h
     ·cases h
      show (s.out ++ _).length ≤ _
      rw [List.length_append]; omega
  ·rw [if_neg (by omega),if_neg (by omega)] at h ⊢
   split at h
   ·split at h
    ·cases h
     show (s.out ++ lastB e.tr).length ≤ _
     unfold lastB
     simp only [List.length_append,List.length_cons,List.length_nil]; omega
    ·cases h
   ·split at h
    ·cases h
    ·split at h
     ·cases h
     ·cases h
      show s.out.length ≤ _
      omega
theorem fmt_len : ∀ (l : List Ev) (s : FS),(∀ e ∈ l,EvQ e) → (fmt s l).1 = 0 → (fmt s l).2.out.length ≤ s.out.length + wgt l
 | [],s,_,_ => Nat.le_add_right _ _
 | e :: l,s,hq,h => by
  have hx : fmt s (e :: l) = if (fev s e).1 ≠ 0 then ((fev s e).1,s) else fmt (fev s e).2 l:=rfl
  by_cases h0 : (fev s e).1 = 0
  ·rw [hx,if_neg (fun h => h h0)] at h ⊢
   have h1:=fev_len (s:=s) (s':=(fev s e).2) (hq e List.mem_cons_self).kind (hq e List.mem_cons_self).data (Prod.ext h0 rfl); have h2:=fmt_len l _ (fun x hx => hq x (List.mem_cons_of_mem _ hx)) h; rw [wgt_cons]; omega
  ·rw [hx,if_pos h0] at h
   exact absurd h h0
end Cn
end Go.Proofs.YtjffffpfejmoiaaGreatDoor
