import Derived.Test.YtjffffpfejmoiaaGreatDoorNApp
namespace Go.Proofs.YtjffffpfejmoiaaGreatDoor
open Go.RowKit Syn Hd Fr Ck
namespace Cn
theorem R_keep : ∀ (k : Nat) (c : C),ms c ≤ k → (R c).1.closed = c.closed ∧ (R c).1.resp = c.resp ∧ (R c).1.buf.length ≤ c.buf.length:=by
 intro k; induction k using Nat.strongRecOn with
 | ind k ih =>
  intro c hk; by_cases h0 : c.err = 0
  ·by_cases hb : c.body = true
   ·have hp:=pBuf_le c
    by_cases n1 : (pC c).body = true
    ·rw [R_body h0 hb n1]
     exact ⟨rfl,rfl,hp⟩
    ·rw [R_done h0 hb n1]
     have hm:=ms_pC hb n1; obtain ⟨a,b,d⟩:=ih (ms (pC c)) (by omega) (pC c) (Nat.le_refl _)
     exact ⟨a,b,Nat.le_trans d hp⟩
   ·by_cases hn : c.buf = []
    ·rw [R_nil h0 hb hn]; exact ⟨rfl,rfl,Nat.le_refl _⟩
    ·by_cases hw : wait c
     ·rw [R_wait h0 hb hn hw]; exact ⟨rfl,rfl,Nat.le_refl _⟩
     ·by_cases hs : sE c = 0
      ·have hm:=ms_sC hs
       rw [R_head h0 hb hn hw hs]
       obtain ⟨a,b,d⟩:=ih (ms (sC c)) (by omega) (sC c) (Nat.le_refl _)
       exact ⟨a,b,by have:=hm.2; show (R (sC c)).1.buf.length ≤ _; omega⟩
      ·rw [R_bad h0 hb hn hw hs]; exact ⟨rfl,rfl,Nat.le_refl _⟩
  ·rw [R_err h0]; exact ⟨rfl,rfl,Nat.le_refl _⟩
def feed : C → List (List UInt8) → C × List Ev
 | c,[] => (c,[])
 | c,b :: l => ((feed (write c b).1 l).1,(write c b).2 ++ (feed (write c b).1 l).2)
theorem feed_one (c : C) (b : List UInt8) : feed c [b] = write c b:=by
 show ((write c b).1,(write c b).2 ++ []) = _
 rw [List.append_nil]
theorem app_nil (c : C) : app c [] = c:=by unfold app; rw [List.append_nil]
theorem app_app (c : C) (a b : List UInt8) : app (app c a) b = app c (a ++ b):=by unfold app; rw [List.append_assoc]
theorem write_open {c : C} {b : List UInt8} (h0 : c.err = 0) (hc : c.closed = false) (hb : b ≠ []) : write c b = R (app c b):=by
 have hx : wrE c b = 0:=by
  unfold wrE
  rw [if_neg (fun h => by rw [hc] at h; cases h.2.1)]
  exact h0
 unfold write
 rw [hx,if_neg (by rintro (h | h); exact h rfl; exact hb h)]
theorem write_none {c : C} : write c [] = ({ c with err:=c.err },[]):=by
 have hx : wrE c [] = c.err:=by
  unfold wrE
  rw [if_neg (fun h => h.2.2 rfl)]
 unfold write
 rw [hx,if_pos (.inr rfl)]
theorem write_bad {c : C} {b : List UInt8} (h0 : c.err ≠ 0) : write c b = (c,[]):=by
 have hx : wrE c b = c.err:=by
  unfold wrE
  rw [if_neg (fun h => h0 h.1)]
 unfold write
 rw [hx,if_pos (.inl h0)]
structure Fed (c0 : C) (x : List UInt8) (c : C) (l : List Ev) : Prop where
 err : (R (app c0 x)).1.err = c.err
 st : c.err = 0 → (R (app c0 x)).1 = c
 ev : J (R (app c0 x)).2 l
 closed : c.closed = false
 buf : c.buf.length ≤ c0.buf.length + x.length
theorem Fed.nil {c0 : C} (h : R c0 = (c0,[])) (hc : c0.closed = false) : Fed c0 [] c0 []:=by
 refine ⟨?_,fun _ => ?_,?_,hc,Nat.le_add_right _ _⟩ <;> rw [app_nil,h]
 exact J.refl _
theorem Fed.step {c0 c : C} {x : List UInt8} {l : List Ev} (h : Fed c0 x c l) (h0 : c0.err = 0) (b : List UInt8) : Fed c0 (x ++ b) (write c b).1 (l ++ (write c b).2):=by
 have h0' : (app c0 x).err = 0:=h0
 have hR:=R_app (ms (app c0 x)) (app c0 x) (Nat.le_refl _) h0' b; rw [app_app] at hR
 by_cases hb : b = []
 ·subst hb
  rw [write_none,List.append_nil,List.append_nil]
  exact ⟨h.err,h.st,h.ev,h.closed,h.buf⟩
 ·by_cases he : c.err = 0
  ·have hs:=h.st he
   rw [write_open he h.closed hb]
   rcases hR with ⟨r1,-⟩ | ⟨r1,r2,r3⟩
   ·exact absurd (h.err.trans he) r1
   ·rw [hs] at r2 r3
    obtain ⟨k1,k2,k3⟩:=R_keep _ (app c b) (Nat.le_refl _)
    refine ⟨by rw [r2],fun _ => r2,r3.trans (h.ev.app (J.refl _)),k1.trans h.closed,Nat.le_trans k3 ?_⟩
    show (c.buf ++ b).length ≤ _
    have:=h.buf
    rw [List.length_append,List.length_append]; omega
  ·rw [write_bad he,List.append_nil]
   rcases hR with ⟨r1,r2,r3⟩ | ⟨r1,-⟩
   ·exact ⟨r2.trans h.err,fun e => absurd e he,r3.trans h.ev,h.closed,by have:=h.buf; show c.buf.length ≤ _; rw [List.length_append]; omega⟩
   ·exact absurd (h.err.symm.trans r1) he
theorem Fed.feed {c0 : C} (h0 : c0.err = 0) : ∀ (l : List (List UInt8)) {c : C} {x : List UInt8} {o : List Ev},Fed c0 x c o → Fed c0 (x ++ l.flatten) (Cn.feed c l).1 (o ++ (Cn.feed c l).2)
 | [],c,x,o,h => by
  show Fed c0 (x ++ []) c (o ++ [])
  rw [List.append_nil,List.append_nil]
  exact h
 | b :: l,c,x,o,h => by
  have:=Fed.feed h0 l (h.step h0 b)
  rw [List.append_assoc,List.append_assoc] at this
  exact this
theorem new_R (r : Bool) (ms : List (List UInt8)) : R (new r ms) = (new r ms,[]):=R_nil rfl (by show ¬ false = true; decide) rfl
theorem new_fed (r : Bool) (ms : List (List UInt8)) : Fed (new r ms) [] (new r ms) []:=Fed.nil (new_R r ms) rfl
end Cn
end Go.Proofs.YtjffffpfejmoiaaGreatDoor
namespace Go.Proofs.YtjffffpfejmoiaaGreatDoor
open Go.RowKit Syn Hd Fr Ck
namespace Cn
theorem sized_flds (s : St) (c : UInt8) : (sized s c).fields = s.fields:=by
 unfold sized
 repeat' split
 all_goals rfl
theorem ended_few {s : St} (c : UInt8) (h : s.fields.length ≤ 64) : (ended s c).fields.length ≤ 64:=by
 unfold ended
 repeat' split
 all_goals first
  | exact h
  | (show (s.fields ++ [_]).length ≤ 64; rw [List.length_append,List.length_singleton]; omega)
theorem step_few {s : St} (c : UInt8) (h : s.fields.length ≤ 64) : (Ck.step s c).fields.length ≤ 64:=by
 unfold Ck.step
 repeat' split
 all_goals first
  | (rw [sized_flds]; exact h)
  | exact h
  | exact ended_few c h
theorem wr_few : ∀ (l : List UInt8) (s : St),s.fields.length ≤ 64 → (wr s l).1.fields.length ≤ 64
 | [],s,h => h
 | c :: r,s,h => by
  unfold wr
  split
  ·exact h
  ·split
   ·exact step_few c h
   ·exact wr_few r _ (step_few c h)
structure EvF (e : Ev) : Prop where
 rf : e.rf.length ≤ 1000
 sf : e.sf.length ≤ 1000
 tr : e.tr.length ≤ 1000
theorem evs_few {d : List UInt8} {dn : Bool} {tr : Flds} (h : tr.length ≤ 1000) : ∀ e ∈ evs d dn tr,EvF e:=by
 intro e he; unfold evs at he
 rcases List.mem_append.1 he with he | he
 ·split at he
  ·cases he
  ·obtain rfl:=List.mem_singleton.1 he
   exact ⟨Nat.zero_le _,Nat.zero_le _,Nat.zero_le _⟩
 ·split at he
  ·obtain rfl:=List.mem_singleton.1 he
   exact ⟨Nat.zero_le _,Nat.zero_le _,h⟩
  ·cases he
def Few (c : C) : Prop:=c.dec.fields.length ≤ 64
theorem pC_few {c : C} (h : Few c) : Few (pC c) ∧ ∀ e ∈ pEv c,EvF e:=by
 have h1 : (pTr c).length ≤ 1000:=by
  unfold pTr
  split
  ·have:=wr_few c.buf c.dec h; omega
  ·exact Nat.zero_le _
 refine ⟨?_,evs_few h1⟩
 show (pDec c).fields.length ≤ 64
 unfold pDec
 split
 ·exact wr_few c.buf c.dec h
 ·exact h
theorem sC_few (c : C) : Few (sC c):=Nat.zero_le _
end Cn
end Go.Proofs.YtjffffpfejmoiaaGreatDoor
