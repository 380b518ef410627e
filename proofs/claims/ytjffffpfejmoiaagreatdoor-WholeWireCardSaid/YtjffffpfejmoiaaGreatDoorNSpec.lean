import Derived.Test.YtjffffpfejmoiaaGreatDoorGPl
import Derived.Test.YtjffffpfejmoiaaGreatDoorGFr
import Derived.Test.YtjffffpfejmoiaaGreatDoorGByt
namespace Go.Proofs.YtjffffpfejmoiaaGreatDoor
open Go.RowKit Syn Hd Fr Ck
namespace Cn
abbrev Flds:=List (List UInt8 × List UInt8)
structure Ev where
 kind : Nat
 m : List UInt8
 t : List UInt8
 rf : Flds
 st : Int
 sf : Flds
 data : List UInt8
 tr : Flds
def evReq (m t : List UInt8) (rf : Flds) : Ev:=⟨1,m,t,rf,0,[],[],[]⟩
def evResp (st : Int) (sf : Flds) : Ev:=⟨1,[],[],[],st,sf,[],[]⟩
def evData (d : List UInt8) : Ev:=⟨2,[],[],[],0,[],d,[]⟩
def evEnd (tr : Flds) : Ev:=⟨3,[],[],[],0,[],[],tr⟩
structure C where
 resp : Bool
 closed : Bool
 body : Bool
 meth : List (List UInt8)
 many : Nat
 buf : List UInt8
 kind : Nat
 len : Nat
 dec : Ck.St
 err : Int
def hE (c : C) : Int:=if c.resp = true then rrE c.buf else rqE c.buf
def hEv (c : C) : Ev:=if c.resp = true then evResp (rrS c.buf) (rrL c.buf) else evReq (rqM c.buf) (rqT c.buf) (rqL c.buf)
def hFr (c : C) : Fr.Out:=if c.resp = true then respF (c.meth.headD []) (rrS c.buf) (frame 4 (rrL c.buf)) else frame 1 (rqL c.buf)
def none_ (c : C) : Prop:=c.resp = true ∧ c.meth = []
instance (c : C) : Decidable (none_ c):=inferInstanceAs (Decidable (_ ∧ _))
def wait (c : C) : Prop:=¬ none_ c ∧ hE c = 21
instance (c : C) : Decidable (wait c):=inferInstanceAs (Decidable (_ ∧ _))
def sE (c : C) : Int:=if none_ c then 6 else if hE c ≠ 0 then hE c else if 64 ≤ c.many then 5 else (hFr c).2
def inf (c : C) : Bool:=c.resp && decide (rrS c.buf < 200)
def dr (b : List UInt8) : List UInt8:=b.drop (endF b).toNat
def sC (c : C) : C:={ c with many:=c.many + 1,buf:=dr c.buf,kind:=(hFr c).1.1,len:=(hFr c).1.2,body:=!inf c,dec:=Ck.zero }
def pData (c : C) : List UInt8:=if c.kind = 4 then c.buf else if c.kind = 3 then (wr c.dec c.buf).2.1 else c.buf.take c.len
def pBuf (c : C) : List UInt8:=if c.kind = 4 then [] else if c.kind = 3 then c.buf.drop (wr c.dec c.buf).2.2 else c.buf.drop c.len
def pDone (c : C) : Bool:=if c.kind = 4 then false else if c.kind = 3 then decide ((wr c.dec c.buf).1.bad = 0 ∧ (wr c.dec c.buf).1.place = 8) else decide (c.len ≤ c.buf.length)
def pTr (c : C) : Flds:=if c.kind = 3 then (wr c.dec c.buf).1.fields else []
def pErr (c : C) : Int:=if c.kind = 3 then ((wr c.dec c.buf).1.bad : Int) else 0
def pLen (c : C) : Nat:=if c.kind = 3 ∨ c.kind = 4 then c.len else c.len - c.buf.length
def pDec (c : C) : Ck.St:=if c.kind = 3 then (wr c.dec c.buf).1 else c.dec
def pC (c : C) : C:={ c with buf:=pBuf c,len:=pLen c,dec:=pDec c,err:=pErr c,body:=!pDone c,meth:=if pDone c && c.resp then c.meth.tail else c.meth }
def evs (d : List UInt8) (dn : Bool) (tr : Flds) : List Ev:=(if d = [] then [] else [evData d]) ++ (if dn = true then [evEnd tr] else [])
def pEv (c : C) : List Ev:=evs (pData c) (pDone c) (pTr c)
def run : Nat → C → C × List Ev
 | 0,c => (c,[])
 | n + 1,c => if c.err ≠ 0 then (c,[])
  else if c.body = true then (if (pC c).body = true then (pC c,pEv c) else ((run n (pC c)).1,pEv c ++ (run n (pC c)).2))
  else if c.buf = [] then (c,[]) else if wait c then (c,[]) else if sE c ≠ 0 then ({ c with err:=sE c },[]) else ((run n (sC c)).1,hEv c :: (run n (sC c)).2)
def ms (c : C) : Nat:=2 * c.buf.length + (if c.body = true then 1 else 0)
def R (c : C) : C × List Ev:=run (ms c + 1) c
def app (c : C) (x : List UInt8) : C:={ c with buf:=c.buf ++ x }
def wrE (c : C) (x : List UInt8) : Int:=if c.err = 0 ∧ c.closed = true ∧ x ≠ [] then 6 else c.err
def write (c : C) (x : List UInt8) : C × List Ev:=if wrE c x ≠ 0 ∨ x = [] then ({ c with err:=wrE c x },[]) else R (app c x)
def new (resp : Bool) (meth : List (List UInt8)) : C:=⟨resp,false,false,meth,0,[],0,0,Ck.zero,0⟩
theorem hd_len {c : C} (h : hE c = 0) : ∃ n : Nat,endF c.buf = (n : Int) ∧ 4 ≤ n ∧ n ≤ c.buf.length:=by
 have hl : lnE c.buf = 0:=by
  unfold hE at h
  split at h
  ·unfold rrE at h; split at h
   ·assumption
   ·exact h
  ·exact rqE_ok h
 obtain ⟨n,h1,h2,h3,-⟩:=lnE_ok hl
 exact ⟨n,h1,h2,h3⟩
theorem sE_hE {c : C} (h : sE c = 0) : hE c = 0 ∧ ¬ none_ c ∧ c.many < 64 ∧ (hFr c).2 = 0:=by
 unfold sE at h
 split at h
 ·cases h
 ·rename_i h1
  split at h
  ·rename_i h2; exact absurd h h2
  ·rename_i h2
   split at h
   ·cases h
   ·exact ⟨Decidable.not_not.1 h2,h1,by omega,h⟩
theorem ms_sC {c : C} (h : sE c = 0) : ms (sC c) + 3 ≤ ms c ∧ (sC c).buf.length + 4 ≤ c.buf.length:=by
 obtain ⟨n,e,h4,hl⟩:=hd_len (sE_hE h).1
 have : (sC c).buf.length + n = c.buf.length:=by
  show (dr c.buf).length + n = _
  unfold dr
  rw [List.length_drop,e]; show c.buf.length - n + n = _; omega
 unfold ms
 refine ⟨?_,by omega⟩
 split <;> split <;> omega
theorem pBuf_le (c : C) : (pBuf c).length ≤ c.buf.length:=by
 unfold pBuf
 split
 ·exact Nat.zero_le _
 ·split <;> (rw [List.length_drop]; omega)
theorem ms_pC {c : C} (h : c.body = true) (h2 : ¬ (pC c).body = true) : ms (pC c) + 1 ≤ ms c:=by
 have:=pBuf_le c
 unfold ms
 rw [if_pos h,if_neg h2]
 show 2 * (pBuf c).length + 0 + 1 ≤ _
 omega
theorem run_enough : ∀ (k : Nat) (c : C),ms c ≤ k → ∀ n m,ms c < n → ms c < m → run n c = run m c:=by
 intro k; induction k using Nat.strongRecOn with
 | ind k ih =>
  intro c hk n m hn hm; obtain ⟨n,rfl⟩ : ∃ n',n = n' + 1:=⟨n - 1,by omega⟩
  obtain ⟨m,rfl⟩ : ∃ m',m = m' + 1:=⟨m - 1,by omega⟩
  unfold run
  by_cases h1 : c.err ≠ 0
  ·rw [if_pos h1,if_pos h1]
  ·rw [if_neg h1,if_neg h1]
   by_cases h2 : c.body = true
   ·rw [if_pos h2,if_pos h2]
    by_cases h3 : (pC c).body = true
    ·rw [if_pos h3,if_pos h3]
    ·have:=ms_pC h2 h3
     rw [if_neg h3,if_neg h3,ih (ms (pC c)) (by omega) (pC c) (Nat.le_refl _) n m (by omega) (by omega)]
   ·rw [if_neg h2,if_neg h2]
    by_cases h3 : c.buf = []
    ·rw [if_pos h3,if_pos h3]
    ·rw [if_neg h3,if_neg h3]
     by_cases h4 : wait c
     ·rw [if_pos h4,if_pos h4]
     ·rw [if_neg h4,if_neg h4]
      by_cases h5 : sE c ≠ 0
      ·rw [if_pos h5,if_pos h5]
      ·have:=(ms_sC (Decidable.not_not.1 h5)).1
       rw [if_neg h5,if_neg h5,ih (ms (sC c)) (by omega) (sC c) (Nat.le_refl _) n m (by omega) (by omega)]
theorem R_eq (c : C) : R c = if c.err ≠ 0 then (c,[])
  else if c.body = true then (if (pC c).body = true then (pC c,pEv c) else ((R (pC c)).1,pEv c ++ (R (pC c)).2))
  else if c.buf = [] then (c,[]) else if wait c then (c,[]) else if sE c ≠ 0 then ({ c with err:=sE c },[]) else ((R (sC c)).1,hEv c :: (R (sC c)).2):=by
 unfold R
 rw [show run (ms c + 1) c = if c.err ≠ 0 then (c,[])
  else if c.body = true then (if (pC c).body = true then (pC c,pEv c) else ((run (ms c) (pC c)).1,pEv c ++ (run (ms c) (pC c)).2))
  else if c.buf = [] then (c,[]) else if wait c then (c,[]) else if sE c ≠ 0 then ({ c with err:=sE c },[]) else ((run (ms c) (sC c)).1,hEv c :: (run (ms c) (sC c)).2) from rfl]
 by_cases h1 : c.err ≠ 0
 ·rw [if_pos h1,if_pos h1]
 ·rw [if_neg h1,if_neg h1]
  by_cases h2 : c.body = true
  ·rw [if_pos h2,if_pos h2]
   by_cases h3 : (pC c).body = true
   ·rw [if_pos h3,if_pos h3]
   ·have:=ms_pC h2 h3
    rw [if_neg h3,if_neg h3,run_enough _ (pC c) (Nat.le_refl _) (ms c) (ms (pC c) + 1) (by omega) (by omega)]
  ·rw [if_neg h2,if_neg h2]
   by_cases h3 : c.buf = []
   ·rw [if_pos h3,if_pos h3]
   ·rw [if_neg h3,if_neg h3]
    by_cases h4 : wait c
    ·rw [if_pos h4,if_pos h4]
    ·rw [if_neg h4,if_neg h4]
     by_cases h5 : sE c ≠ 0
     ·rw [if_pos h5,if_pos h5]
     ·have:=(ms_sC (Decidable.not_not.1 h5)).1
      rw [if_neg h5,if_neg h5,run_enough _ (sC c) (Nat.le_refl _) (ms c) (ms (sC c) + 1) (by omega) (by omega)]
theorem R_err {c : C} (h : c.err ≠ 0) : R c = (c,[]):=by rw [R_eq,if_pos h]
theorem R_body {c : C} (h0 : c.err = 0) (h : c.body = true) (h2 : (pC c).body = true) : R c = (pC c,pEv c):=by
 rw [R_eq,if_neg (by rw [h0]; exact fun h => h rfl),if_pos h,if_pos h2]
theorem R_done {c : C} (h0 : c.err = 0) (h : c.body = true) (h2 : ¬ (pC c).body = true) : R c = ((R (pC c)).1,pEv c ++ (R (pC c)).2):=by
 rw [R_eq,if_neg (by rw [h0]; exact fun h => h rfl),if_pos h,if_neg h2]
theorem R_nil {c : C} (h0 : c.err = 0) (h : ¬ c.body = true) (h2 : c.buf = []) : R c = (c,[]):=by
 rw [R_eq,if_neg (by rw [h0]; exact fun h => h rfl),if_neg h,if_pos h2]
theorem R_wait {c : C} (h0 : c.err = 0) (h : ¬ c.body = true) (h2 : ¬ c.buf = []) (h3 : wait c) : R c = (c,[]):=by
 rw [R_eq,if_neg (by rw [h0]; exact fun h => h rfl),if_neg h,if_neg h2,if_pos h3]
theorem R_bad {c : C} (h0 : c.err = 0) (h : ¬ c.body = true) (h2 : ¬ c.buf = []) (h3 : ¬ wait c) (h4 : sE c ≠ 0) : R c = ({ c with err:=sE c },[]):=by
 rw [R_eq,if_neg (by rw [h0]; exact fun h => h rfl),if_neg h,if_neg h2,if_neg h3,if_pos h4]
theorem R_head {c : C} (h0 : c.err = 0) (h : ¬ c.body = true) (h2 : ¬ c.buf = []) (h3 : ¬ wait c) (h4 : sE c = 0) : R c = ((R (sC c)).1,hEv c :: (R (sC c)).2):=by
 rw [R_eq,if_neg (by rw [h0]; exact fun h => h rfl),if_neg h,if_neg h2,if_neg h3,if_neg (fun h => h h4)]
end Cn
end Go.Proofs.YtjffffpfejmoiaaGreatDoor
