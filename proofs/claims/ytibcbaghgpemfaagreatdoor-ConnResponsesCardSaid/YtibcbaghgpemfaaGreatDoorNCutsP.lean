import Derived.Test.YtibcbaghgpemfaaGreatDoorDJoin
import Derived.Test.YtibcbaghgpemfaaGreatDoorNResp
namespace Go.Proofs.YtibcbaghgpemfaaGreatDoor
open Go.RowKit Syn Hd Fr Ck
namespace Cn
theorem dsum_evs (d : List UInt8) (dn : Bool) (tr : Flds) : dsum (evs d dn tr) = d.length:=by
 unfold evs
 rw [dsum_app]
 have h1 : dsum (if dn = true then [evEnd tr] else []) = 0:=by split <;> rfl
 rw [h1]
 by_cases hd : d = []
 ·rw [if_pos hd,hd]; rfl
 ·rw [if_neg hd,dsum_one]; rfl
theorem pC_dsum (c : C) : dsum (pEv c) + (pBuf c).length ≤ c.buf.length:=by
 unfold pEv
 rw [dsum_evs]
 unfold pData pBuf
 by_cases h4 : c.kind = 4
 ·rw [if_pos h4,if_pos h4]; exact Nat.le_refl _
 ·rw [if_neg h4,if_neg h4]
  by_cases h3 : c.kind = 3
  ·rw [if_pos h3,if_pos h3,List.length_drop]
   have b:=wr_data_count c.buf c.dec; have d:=wr_count c.buf c.dec; omega
  ·rw [if_neg h3,if_neg h3,List.length_drop,List.length_take]
   omega
theorem hEv_data (c : C) : (hEv c).data = []:=by unfold hEv; split <;> rfl
theorem R_dsum : ∀ (k : Nat) (c : C),ms c ≤ k → dsum (R c).2 + (R c).1.buf.length ≤ c.buf.length:=by
 intro k; induction k using Nat.strongRecOn with
 | ind k ih =>
  intro c hk; have h00 : dsum ([] : List Ev) = 0:=rfl
  by_cases h0 : c.err = 0
  ·by_cases hb : c.body = true
   ·have hp:=pC_dsum c
    by_cases n1 : (pC c).body = true
    ·rw [R_body h0 hb n1]
     exact hp
    ·rw [R_done h0 hb n1]
     have hm:=ms_pC hb n1; have:=ih (ms (pC c)) (by omega) (pC c) (Nat.le_refl _)
     show dsum (pEv c ++ (R (pC c)).2) + (R (pC c)).1.buf.length ≤ _
     have h5 : (pC c).buf.length = (pBuf c).length:=rfl
     rw [dsum_app]; omega
   ·by_cases hn : c.buf = []
    ·rw [R_nil h0 hb hn]; show dsum [] + c.buf.length ≤ _; omega
    ·by_cases hw : wait c
     ·rw [R_wait h0 hb hn hw]; show dsum [] + c.buf.length ≤ _; omega
     ·by_cases hs : sE c = 0
      ·have hm:=ms_sC hs
       rw [R_head h0 hb hn hw hs]
       have:=ih (ms (sC c)) (by omega) (sC c) (Nat.le_refl _)
       show dsum (hEv c :: (R (sC c)).2) + (R (sC c)).1.buf.length ≤ _
       rw [dsum_cons,hEv_data]
       have:=hm.2
       simp only [List.length_nil]
       omega
      ·rw [R_bad h0 hb hn hw hs]; show dsum [] + c.buf.length ≤ _; omega
  ·rw [R_err h0]; show dsum [] + c.buf.length ≤ _; omega
theorem write_dsum (c : C) (b : List UInt8) : dsum (write c b).2 + (write c b).1.buf.length ≤ c.buf.length + b.length:=by
 unfold write
 split
 ·show 0 + c.buf.length ≤ _; omega
 ·have h1:=R_dsum _ (app c b) (Nat.le_refl _)
  have h2 : (app c b).buf.length = c.buf.length + b.length:=List.length_append
  omega
theorem feed_dsum : ∀ (l : List (List UInt8)) (c : C),dsum (feed c l).2 + (feed c l).1.buf.length ≤ c.buf.length + l.flatten.length
 | [],c => by show 0 + c.buf.length ≤ _; omega
 | b :: l,c => by
  have h1:=write_dsum c b; have h2:=feed_dsum l (write c b).1; show dsum ((write c b).2 ++ (feed (write c b).1 l).2) + (feed (write c b).1 l).1.buf.length ≤ _
  rw [dsum_app,List.flatten_cons,List.length_append]
  omega
end Cn
end Go.Proofs.YtibcbaghgpemfaaGreatDoor
