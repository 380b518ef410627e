import Derived.Test.YtibcbaghgpemfaaGreatDoorNFeedP
namespace Go.Proofs.YtibcbaghgpemfaaGreatDoor
open Go.RowKit Syn Hd Fr Ck
namespace Cn
def NA : Bool → List Ev → Prop
 | _,[] => True
 | p,e :: l => (e.kind = 2 → p = false ∧ e.data ≠ []) ∧ NA (decide (e.kind = 2)) l
theorem NA.free : ∀ {l : List Ev} {p : Bool},NA true l → NA p l
 | [],_,_ => trivial
 | _ :: _,_,h => ⟨fun e => absurd (h.1 e).1 (by decide),h.2⟩
theorem NA.app : ∀ {a b : List Ev} {p : Bool},NA p a → NA true b → NA p (a ++ b)
 | [],_,_,_,h2 => h2.free
 | _ :: _,_,_,h,h2 => ⟨h.1,h.2.app h2⟩
theorem evs_NA (d : List UInt8) (dn : Bool) (tr : Flds) : NA false (evs d dn tr):=by
 unfold evs
 by_cases hd : d = []
 ·rw [if_pos hd]
  cases dn
  ·exact trivial
  ·exact ⟨fun e => (by cases e),trivial⟩
 ·rw [if_neg hd]
  cases dn
  ·exact ⟨fun _ => ⟨rfl,hd⟩,trivial⟩
  ·exact ⟨fun _ => ⟨rfl,hd⟩,⟨fun e => (by cases e),trivial⟩⟩
theorem hEv_kind (c : C) : (hEv c).kind = 1:=by unfold hEv; split <;> rfl
theorem R_NA : ∀ (k : Nat) (c : C),ms c ≤ k → NA (!c.body) (R c).2:=by
 intro k; induction k using Nat.strongRecOn with
 | ind k ih =>
  intro c hk; by_cases h0 : c.err = 0
  ·by_cases hb : c.body = true
   ·rw [hb]
    by_cases n1 : (pC c).body = true
    ·rw [R_body h0 hb n1]
     exact evs_NA _ _ _
    ·rw [R_done h0 hb n1]
     have hm:=ms_pC hb n1; have:=ih (ms (pC c)) (by omega) (pC c) (Nat.le_refl _)
     rw [show (pC c).body = false by simpa using n1] at this
     exact (evs_NA _ _ _).app this
   ·rw [show c.body = false by simpa using hb]
    by_cases hn : c.buf = []
    ·rw [R_nil h0 hb hn]; exact trivial
    ·by_cases hw : wait c
     ·rw [R_wait h0 hb hn hw]; exact trivial
     ·by_cases hs : sE c = 0
      ·have hm:=ms_sC hs
       rw [R_head h0 hb hn hw hs]
       refine ⟨fun e => (by rw [hEv_kind] at e; cases e),?_⟩
       rw [hEv_kind]
       have:=ih (ms (sC c)) (by omega) (sC c) (Nat.le_refl _)
       cases hx : (sC c).body
       ·rw [hx] at this; exact this.free
       ·rw [hx] at this; exact this
      ·rw [R_bad h0 hb hn hw hs]; exact trivial
  ·rw [R_err h0]; exact trivial
theorem write_NA (c : C) (b : List UInt8) : NA false (write c b).2:=by
 unfold write
 split
 ·exact trivial
 ·have:=R_NA _ (app c b) (Nat.le_refl _)
  cases hx : (app c b).body
  ·rw [hx] at this; exact this.free
  ·rw [hx] at this; exact this
theorem close_NA (c : C) : NA true (close c).2:=by
 unfold close
 split
 ·exact trivial
 ·split
  ·exact ⟨fun e => (by cases e),trivial⟩
  ·split <;> exact trivial
theorem jadd_free {o : List Ev} {e : Ev} (h : ∀ x,o.getLast? = some x → ¬ (x.kind = 2 ∧ e.kind = 2)) : jadd o e = o ++ [e]:=by
 unfold jadd
 cases hl : o.getLast? with
 | none => rfl
 | some x => exact if_neg (h x hl)
theorem foldl_NA : ∀ (l : List Ev) (o : List Ev) (p : Bool),(∀ x,o.getLast? = some x → x.kind = 2 → p = true) → NA p l → l.foldl jadd o = o ++ l
 | [],o,_,_,_ => (List.append_nil o).symm
 | e :: l,o,p,ho,h => by
  rw [List.foldl_cons,jadd_free (fun x hx hk => by have:=(h.1 hk.2).1; rw [ho x hx hk.1] at this; cases this),foldl_NA l (o ++ [e]) (decide (e.kind = 2)) (fun x hx hk => by
   rw [List.getLast?_append,List.getLast?_singleton] at hx
   cases hx
   exact decide_eq_true hk) h.2,List.append_assoc]
  rfl
theorem joined_NA {l : List Ev} (h : NA false l) : joined l = l:=foldl_NA l [] false (fun _ h => by cases h) h
def docL (c : C) (closed : Bool) : List Ev:=(R c).2 ++ (if closed = true then (close (R c).1).2 else [])
def docE (c : C) (closed : Bool) : Int:=if closed = true then (close (R c).1).1.err else (R c).1.err
theorem docL_NA (r : Bool) (ms : List (List UInt8)) (x : List UInt8) (closed : Bool) : NA false (docL (app (new r ms) x) closed):=by
 unfold docL
 have:=R_NA _ (app (new r ms) x) (Nat.le_refl _)
 refine NA.app (NA.free this) ?_
 split
 ·exact close_NA _
 ·exact trivial
theorem doc_open {r : Bool} {ms : List (List UInt8)} {x : List UInt8} {c : C} {l : List Ev} (h : Fed (new r ms) x c l) : joined l = docL (app (new r ms) x) false ∧ c.err = docE (app (new r ms) x) false:=by
 refine ⟨?_,h.err.symm⟩
 rw [← h.ev.joined,joined_NA (NA.free (R_NA _ (app (new r ms) x) (Nat.le_refl _)))]
 unfold docL
 rw [if_neg (by decide),List.append_nil]
theorem close_bad {c : C} (h : c.err ≠ 0) : close c = (c,[]):=if_pos (.inl h)
theorem doc_close {r : Bool} {ms : List (List UInt8)} {x : List UInt8} {c : C} {l : List Ev} (h : Fed (new r ms) x c l) : joined (l ++ (close c).2) = docL (app (new r ms) x) true ∧ (close c).1.err = docE (app (new r ms) x) true:=by
 have e1 : (close c).2 = (close (R (app (new r ms) x)).1).2 ∧ (close c).1.err = (close (R (app (new r ms) x)).1).1.err:=by
  by_cases h0 : c.err = 0
  ·rw [h.st h0]; exact ⟨rfl,rfl⟩
  ·rw [close_bad h0,close_bad (show (R (app (new r ms) x)).1.err ≠ 0 from fun e => h0 (h.err.symm.trans e))]
   exact ⟨rfl,h.err.symm⟩
 refine ⟨?_,e1.2⟩
 rw [e1.1,← (h.ev.app (J.refl _)).joined]
 exact joined_NA (docL_NA r ms x true)
structure Doc (c0 c : C) (l : List Ev) : Prop where
 err : c.err = 0
 body : c.body = false
 closed : c.closed = false
 st : (R c0).1 = (R c).1
 ev : (R c0).2 = l ++ (R c).2
section
variable {c0 c : C} {l : List Ev}
theorem Doc.nil {c : C} (h0 : c.err = 0) (hb : c.body = false) (hc : c.closed = false) : Doc c c []:=⟨h0,hb,hc,rfl,rfl⟩
theorem Doc.end_ (h : Doc c0 c l) (hn : c.buf = []) (closed : Bool) : docL c0 closed = l ∧ docE c0 closed = 0:=by
 have hR:=R_nil h.err (by rw [h.body]; decide) hn
 unfold docL docE
 rw [h.st,h.ev,hR]
 have hc : close c = ({ c with closed:=true },[]) ∨ close c = ({ c with closed:=true,body:=false },[evEnd []]) ∨ True:=.inr (.inr trivial)
 clear hc; have hc : close c = ({ c with closed:=true },[]):=by
  unfold close
  rw [if_neg (by rintro (x | x); exact x h.err; rw [h.closed] at x; cases x),if_neg (fun x => by rw [h.body] at x; cases x.1),if_neg (by rintro (x | x); rw [h.body] at x; cases x; exact x hn)]
 cases closed
 ·rw [if_neg (by decide),if_neg (by decide),List.append_nil,List.append_nil]; exact ⟨rfl,h.err⟩
 ·rw [if_pos rfl,if_pos rfl,hc,List.append_nil,List.append_nil]; exact ⟨rfl,h.err⟩
theorem Doc.wait (h : Doc c0 c l) (hn : ¬ c.buf = []) (hw : Cn.wait c) (closed : Bool) : docL c0 closed = l ∧ docE c0 closed = if closed = true then 21 else 0:=by
 have hR:=R_wait h.err (by rw [h.body]; decide) hn hw
 unfold docL docE
 rw [h.st,h.ev,hR]
 have hc : close c = ({ c with err:=21 },[]):=by
  unfold close
  rw [if_neg (by rintro (x | x); exact x h.err; rw [h.closed] at x; cases x),if_neg (fun x => by rw [h.body] at x; cases x.1),if_pos (.inr hn)]
 cases closed
 ·rw [if_neg (by decide),if_neg (by decide),if_neg (by decide),List.append_nil,List.append_nil]; exact ⟨rfl,h.err⟩
 ·rw [if_pos rfl,if_pos rfl,if_pos rfl,hc,List.append_nil,List.append_nil]; exact ⟨rfl,rfl⟩
theorem Doc.bad (h : Doc c0 c l) (hn : ¬ c.buf = []) (hw : ¬ Cn.wait c) (hs : sE c ≠ 0) (closed : Bool) : docL c0 closed = l ∧ docE c0 closed = sE c:=by
 have hR:=R_bad h.err (by rw [h.body]; decide) hn hw hs
 unfold docL docE
 rw [h.st,h.ev,hR]
 have hc : close { c with err:=sE c } = ({ c with err:=sE c },[]):=close_bad hs
 cases closed
 ·rw [if_neg (by decide),if_neg (by decide),List.append_nil,List.append_nil]; exact ⟨rfl,rfl⟩
 ·rw [if_pos rfl,if_pos rfl,hc,List.append_nil,List.append_nil]; exact ⟨rfl,rfl⟩
theorem Doc.inf (h : Doc c0 c l) (hn : ¬ c.buf = []) (hw : ¬ Cn.wait c) (hs : sE c = 0) (hi : Cn.inf c = true) : Doc c0 (sC c) (l ++ [hEv c]):=by
 have hR:=R_head h.err (by rw [h.body]; decide) hn hw hs
 refine ⟨h.err,by show (!Cn.inf c) = false; rw [hi]; rfl,h.closed,by rw [h.st,hR],by rw [h.ev,hR,List.append_assoc]; rfl⟩
theorem Doc.done (h : Doc c0 c l) (hn : ¬ c.buf = []) (hw : ¬ Cn.wait c) (hs : sE c = 0) (hi : Cn.inf c = false) (hd : pDone (sC c) = true) (he : pErr (sC c) = 0) : Doc c0 (pC (sC c)) ((l ++ [hEv c]) ++ pEv (sC c)):=by
 have hR:=R_head h.err (by rw [h.body]; decide) hn hw hs
 have hb : (sC c).body = true:=by show (!Cn.inf c) = true; rw [hi]; rfl
 have hb2 : (pC (sC c)).body = false:=by show (!pDone (sC c)) = false; rw [hd]; rfl
 have hR2:=R_done (c:=sC c) h.err hb (by rw [hb2]; decide)
 refine ⟨he,hb2,h.closed,by rw [h.st,hR,hR2],by rw [h.ev,hR,hR2,List.append_assoc,List.append_assoc]; rfl⟩
theorem Doc.part (h : Doc c0 c l) (hn : ¬ c.buf = []) (hw : ¬ Cn.wait c) (hs : sE c = 0) (hi : Cn.inf c = false) (hd : pDone (sC c) = false) (closed : Bool) :
  (pErr (sC c) ≠ 0 → docL c0 closed = (l ++ [hEv c]) ++ pEv (sC c) ∧ docE c0 closed = pErr (sC c)) ∧
  (pErr (sC c) = 0 → (sC c).kind ≠ 4 → docL c0 closed = (l ++ [hEv c]) ++ pEv (sC c) ∧ docE c0 closed = if closed = true then 21 else 0) ∧
  (pErr (sC c) = 0 → (sC c).kind = 4 → docL c0 closed = (l ++ [hEv c]) ++ evs (pData (sC c)) closed [] ∧ docE c0 closed = 0):=by
 have hR:=R_head h.err (by rw [h.body]; decide) hn hw hs
 have hb : (sC c).body = true:=by show (!Cn.inf c) = true; rw [hi]; rfl
 have hb2 : (pC (sC c)).body = true:=by show (!pDone (sC c)) = true; rw [hd]; rfl
 have hR2:=R_body (c:=sC c) h.err hb hb2; have hL : (R c0).2 = (l ++ [hEv c]) ++ pEv (sC c):=by rw [h.ev,hR,hR2,List.append_assoc]; rfl
 have hC : (R c0).1 = pC (sC c):=by rw [h.st,hR,hR2]
 unfold docL docE
 rw [hL,hC]
 have hcl : (pC (sC c)).closed = false:=h.closed
 have hE : (pC (sC c)).err = pErr (sC c):=rfl
 have hK : (pC (sC c)).kind = (sC c).kind:=rfl
 refine ⟨fun he => ?_,fun he hk => ?_,fun he hk => ?_⟩
 ·rw [close_bad (show (pC (sC c)).err ≠ 0 from he)]
  cases closed
  ·rw [if_neg (by decide),if_neg (by decide),List.append_nil]; exact ⟨rfl,hE⟩
  ·rw [if_pos rfl,if_pos rfl,List.append_nil]; exact ⟨rfl,hE⟩
 ·have hc : close (pC (sC c)) = ({ pC (sC c) with err:=21 },[]):=by
   unfold close
   rw [if_neg (by rintro (x | x); exact x (hE.trans he); rw [hcl] at x; cases x),if_neg (fun x => hk x.2),if_pos (.inl hb2)]
  cases closed
  ·rw [if_neg (by decide),if_neg (by decide),if_neg (by decide),List.append_nil]; exact ⟨rfl,hE.trans he⟩
  ·rw [if_pos rfl,if_pos rfl,if_pos rfl,hc,List.append_nil]; exact ⟨rfl,rfl⟩
 ·have hc : close (pC (sC c)) = ({ pC (sC c) with closed:=true,body:=false },[evEnd []]):=by
   unfold close
   rw [if_neg (by rintro (x | x); exact x (hE.trans he); rw [hcl] at x; cases x),if_pos ⟨hb2,hk⟩]
  have hev : pEv (sC c) = evs (pData (sC c)) false []:=by
   unfold pEv
   rw [hd]; rfl
  cases closed
  ·rw [if_neg (by decide),if_neg (by decide),List.append_nil,hev]; exact ⟨rfl,hE.trans he⟩
  ·rw [if_pos rfl,if_pos rfl,hc,hev]
   refine ⟨?_,hE.trans he⟩
   rw [List.append_assoc]
   congr 1
   unfold evs
   show ((if pData (sC c) = [] then [] else [evData (pData (sC c))]) ++ (if false = true then [evEnd []] else [])) ++ [evEnd []] = _ ++ (if true = true then [evEnd []] else [])
   rw [if_neg (show ¬ (false = true) by decide),if_pos (show true = true from rfl),List.append_nil]
end
end Cn
end Go.Proofs.YtibcbaghgpemfaaGreatDoor
