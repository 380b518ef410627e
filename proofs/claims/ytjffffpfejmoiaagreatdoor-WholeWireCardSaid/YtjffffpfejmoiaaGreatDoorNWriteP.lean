import Derived.Test.YtjffffpfejmoiaaGreatDoorNPartP
namespace Go.Proofs.YtjffffpfejmoiaaGreatDoor
open Go.RowKit Syn Hd Fr Ck
namespace Cn
def msW (w : World) (g : Nat) : Nat :=
 match w.cell? ⟨g,9,none⟩,w.cell? ⟨g,5,none⟩,w.cell? ⟨g,2,none⟩ with
 | some .nilIface,some (.slice _ n _),some (.bool b) => 2 * n + (if b = true then 1 else 0) + 1
 | _,_,_ => 0
theorem msW_ok {w : World} {g : Nat} {F : Nat → Prop} {c : C} (h : At w g F c) (h0 : c.err = 0) : msW w g = ms c + 1:=by
 obtain ⟨-,-,vm,vb,kv,lv,vd,hb,hl⟩:=h
 obtain ⟨A,cap,rfl,-⟩:=(hl h0).nil
 rw [h0] at hb
 have c9 : w.cell? ⟨g,9,none⟩ = some .nilIface:=hb.cell 9
 have c5 : w.cell? ⟨g,5,none⟩ = some (.slice A c.buf.length cap):=hb.cell 5
 have c2 : w.cell? ⟨g,2,none⟩ = some (.bool c.body):=hb.cell 2
 unfold msW
 rw [c9,c5,c2]
 rfl
theorem msW_bad {w : World} {g : Nat} {F : Nat → Prop} {c : C} (h : At w g F c) (h0 : c.err ≠ 0) : msW w g = 0:=by
 obtain ⟨-,-,vm,vb,kv,lv,vd,hb,-⟩:=h
 have c9 : w.cell? ⟨g,9,none⟩ = some (.iface 57 (.int .i64 c.err)):=by
  have:=hb.cell 9
  unfold errV at this
  rw [if_neg h0] at this; exact this
 unfold msW
 rw [c9]
theorem msW_le {w : World} {g : Nat} {F : Nat → Prop} {c : C} (h : At w g F c) : msW w g ≤ ms c + 1:=by
 by_cases h0 : c.err = 0
 ·rw [msW_ok h h0]; exact Nat.le_refl _
 ·rw [msW_bad h h0]; exact Nat.zero_le _
def WI (w : World) (g : Nat) (F : Nat → Prop) (s : C) (o : Value) (wr : World) (c : C) (F' : Nat → Prop) (l : List Ev) (xs : List Value) : Prop :=
 (R s).1 = (R c).1 ∧ (R s).2 = l ++ (R c).2 ∧ At wr g F' c ∧ EvsC wr (fun k => w.heap.size ≤ k ∧ k < wr.heap.size ∧ ¬ F' k ∧ o.ownBlock ≠ some k) l xs ∧ Own wr w.heap.size 77 8 o l.length xs ∧ Off F' o ∧ (∀ k,F' k → F k ∨ w.heap.size ≤ k) ∧ Kp F w wr ∧
  l.length + 2 * c.buf.length + (if c.body = true then 2 else 0) ≤ 2000002 ∧ c.buf.length ≤ 1000000
def WriteR (w : World) (g : Nat) (F : Nat → Prop) (r : C × List Ev) (e : Ending) (w' : World) : Prop :=
 ∃ o F' xs,e = .returned (.tuple #[o,errV r.1.err]) ∧ EvsC w' (fun k => w.heap.size ≤ k ∧ k < w'.heap.size ∧ ¬ F' k) r.2 xs ∧ Rd w' 8 o r.2.length xs ∧ On (fun k => w.heap.size ≤ k ∧ k < w'.heap.size ∧ ¬ F' k) o ∧ (∀ k,F' k → F k ∨ w.heap.size ≤ k) ∧ Kp F w w' ∧ At w' g F' r.1
theorem WI.fin {w wr w' : World} {g : Nat} {F F1 F' : Nat → Prop} {s c c' : C} {o o' : Value} {l l' : List Ev} {xs xs' : List Value} (h : WI w g F s o wr c F1 l xs) (hR : R c = (c',l')) (hA : At w' g F' c') (hE : EvsC w' (fun k => w.heap.size ≤ k ∧ k < w'.heap.size ∧ ¬ F' k) (l ++ l') xs')
  (hO : Own w' w.heap.size 77 8 o' (l ++ l').length xs') (hoff : Off F' o') (hFF : ∀ k,F' k → F k ∨ w.heap.size ≤ k) (hk : Kp F w w') {e : Value} (he : e = errV c'.err) : WriteR w g F (R s) (.returned (.tuple #[o',e])) w':=by
 obtain ⟨h1,h2,-⟩:=h
 rw [hR] at h1 h2
 subst he; refine ⟨o',F',xs',by rw [h1],by rw [h2]; exact hE,by rw [h2]; exact Rd.own hO,fun k hk2 => ⟨(World.ownsRow.lt hO k hk2).1,(World.ownsRow.lt hO k hk2).2,hoff k hk2⟩,hFF,hk,by rw [h1]; exact hA⟩
theorem WI.fin0 {w wr w' : World} {g : Nat} {F F1 F' : Nat → Prop} {s c c' : C} {o : Value} {l : List Ev} {xs : List Value} {G : Nat → Prop} (h : WI w g F s o wr c F1 l xs) (hR : R c = (c',[])) (hA : At w' g F' c') (hk : Kp G wr w') (hG : ∀ k,G k → F1 k) (hF1 : ∀ k,F' k → F1 k ∨ wr.heap.size ≤ k) {e : Value} (he : e = errV c'.err) :
  WriteR w g F (R s) (.returned (.tuple #[o,e])) w':=by
 obtain ⟨h1,h2,h3,h4,h5,h6,h7,h8,h9,h10⟩:=id h; have hsz:=h8.size; have hE : EvsC w' (fun k => w.heap.size ≤ k ∧ k < wr.heap.size ∧ ¬ F1 k) l xs:=(h4.mono (fun k hp => ⟨hp.1,hp.2.1,hp.2.2.1⟩)).kp hk (fun k hp hg => hp.2.2 (hG k hg))
 refine h.fin hR hA (xs':=xs) ?_ (by rw [List.append_nil]; exact h5.kp (fun k hk2 hg => h6 k hk2 (hG k hg)) hk) ?_ (fun k hf => (hF1 k hf).elim (h7 k) (fun h => .inr (by omega))) (h8.next (fun k hlt hg => ?_) hk) he
 ·rw [List.append_nil]
  exact hE.mono (fun k hp => ⟨hp.1,Nat.lt_of_lt_of_le hp.2.1 hk.size,fun hf => (hF1 k hf).elim hp.2.2 (fun h => by have:=hp.2.1; omega)⟩)
 ·intro k hk2 hf
  rcases hF1 k hf with h | h
  ·exact h6 k hk2 h
  ·have:=(World.ownsRow.lt h5 k hk2).2; omega
 ·rcases h7 k (hG k hg) with h | h
  ·exact h
  ·omega
theorem WI.push {w wr w2 wq : World} {g : Nat} {F F1 F2 : Nat → Prop} {s c c' : C} {o o' : Value} {l m : List Ev} {xs ys : List Value} (h : WI w g F s o wr c F1 l xs) (hk2 : Kp F1 wr w2) (hF2 : ∀ k,F2 k → F1 k ∨ wr.heap.size ≤ k)
  (hE : EvsC w2 (fun k => wr.heap.size ≤ k ∧ k < w2.heap.size ∧ ¬ F2 k) m ys) (hA : At w2 g F2 c') (hq : Kp (fun k => o.ownBlock = some k) w2 wq) (hO : Own wq w.heap.size 77 8 o' (l.length + m.length) (xs ++ ys))
  (ho : o'.ownBlock = o.ownBlock ∨ ∀ k,o'.ownBlock = some k → w2.heap.size ≤ k) :
  At wq g F2 c' ∧ EvsC wq (fun k => w.heap.size ≤ k ∧ k < wq.heap.size ∧ ¬ F2 k ∧ o'.ownBlock ≠ some k) (l ++ m) (xs ++ ys) ∧ Own wq w.heap.size 77 8 o' (l ++ m).length (xs ++ ys) ∧ Off F2 o' ∧ (∀ k,F2 k → F k ∨ w.heap.size ≤ k) ∧ Kp F w wq:=by
 obtain ⟨h1,h2,h3,h4,h5,h6,h7,h8,-⟩:=id h; have hs1:=h8.size; have hs2:=hk2.size; have hs3:=hq.size; have hob : ∀ k,o.ownBlock = some k → w.heap.size ≤ k ∧ k < wr.heap.size:=fun k hk => World.ownsRow.lt h5 k hk
 have hoF2 : ∀ k,o.ownBlock = some k → ¬ F2 k:=fun k hk hf => (hF2 k hf).elim (h6 k hk) (fun h => by have:=(hob k hk).2; omega)
 have hne : ∀ k,k < w2.heap.size → o.ownBlock ≠ some k → o'.ownBlock ≠ some k:=fun k hlt hne e => by
  rcases ho with h | h
  ·exact hne (h.symm.trans e)
  ·have:=h k e; omega
 refine ⟨hA.kp hq (fun k hf e => hoF2 k e hf),EvsC.app ?_ ?_,by rw [List.length_append]; exact hO,fun k hk hf => ?_,fun k hf => (hF2 k hf).elim (h7 k) (fun h => .inr (by omega)),((h8.next (fun k hlt hf => (h7 k hf).elim id (fun h => by omega)) hk2).next (fun k hlt e => by have:=(hob k e).1; omega) hq)⟩
 ·exact (((h4.kp hk2 (fun k hp hf => hp.2.2.1 hf)).mono (Q:=fun k => w.heap.size ≤ k ∧ k < wr.heap.size ∧ ¬ F1 k ∧ o.ownBlock ≠ some k) (fun k hp => hp)).kp hq (fun k hp e => hp.2.2.2 e)).mono (fun k hp => ⟨hp.1,by have:=hp.2.1; omega,fun hf => (hF2 k hf).elim hp.2.2.1 (fun h => by have:=hp.2.1; omega),hne k (by have:=hp.2.1; omega) hp.2.2.2⟩)
 ·exact (hE.kp hq (fun k hp e => by have:=(hob k e).2; have:=hp.1; omega)).mono (fun k hp => ⟨by have:=hp.1; omega,by have:=hp.2.1; omega,hp.2.2,hne k hp.2.1 (fun e => by have:=(hob k e).2; have:=hp.1; omega)⟩)
 ·rcases ho with h | h
  ·exact hoF2 k (h.symm.trans hk) hf
  ·have:=h k hk
   have:=hA.2.1 k hf
   omega
theorem WriteR.none {w w' : World} {g : Nat} {F : Nat → Prop} {c : C} {e : Value} (hA : At w' g F c) (hk : Kp F w w') (he : e = errV c.err) : WriteR w g F (c,[]) (.returned (.tuple #[.slice Option.none 0 0,e])) w' :=
 ⟨_,F,[],by rw [he],.nil,Rd.nil w' 8,On.nil _,fun k h => .inl h,hk,hA⟩
theorem At.set_err {w : World} {g : Nat} {F : Nat → Prop} {c : C} (h : At w g F c) {n : Int} (h0 : n ≠ 0) : At (w.setCell ⟨g,9,none⟩ (.iface 57 (.int .i64 n))) g F { c with err:=n }:=by
 obtain ⟨h1,h2,vm,vb,kv,lv,vd,hb,hl⟩:=h
 refine ⟨h1,fun k hf => by rw [size_setCell]; exact h2 k hf,vm,vb,kv,lv,vd,?_,fun e => absurd e h0⟩
 have:=hb.set_ 9 (.iface 57 (.int .i64 n))
 show Blk _ g _ (cells c vm vb kv lv vd (errV n))
 unfold errV; rw [if_neg h0]; exact this
theorem At.more {w w' : World} {g : Nat} {F : Nat → Prop} {c : C} {b : List UInt8} {v vm vb vd : Value} {kv lv : Int} (hL : Live w g F c vm vb kv lv vd) (hF : F g) (hlt : ∀ k,F k → k < w.heap.size) (h0 : c.err = 0) (hk : Kp (· = g) w w') (hne : b ≠ [])
  (hb : Blk w' g 73 (cells c vm v kv lv vd .nilIface)) (hO : Own w' w.heap.size 5 1 v (c.buf ++ b).length (u8s (c.buf ++ b))) : At w' g (fun k => F k ∨ v.ownBlock = some k) (app c b):=by
 have hpos : 0 < (c.buf ++ b).length:=by
  rw [List.length_append]
  have:=List.length_pos_iff.2 hne
  omega
 have hown : ∀ k,v.ownBlock = some k → w.heap.size ≤ k ∧ k < w'.heap.size:=fun k hk2 => World.ownsRow.lt hO k hk2
 obtain ⟨gv,cv,hv⟩ : ∃ gv cv,v = .slice (some ⟨gv,0,none⟩) (c.buf ++ b).length cv:=by
  rcases hO.2 with ⟨-,h⟩ | ⟨gv,cv,cur,h,-⟩
  ·omega
  ·exact ⟨gv,cv,h⟩
 have hgl : g < w.heap.size:=hlt g hF
 refine ⟨.inl hF,fun k h => h.elim (fun h => Nat.lt_of_lt_of_le (hlt k h) hk.size) (fun h => (hown k h).2),vm,v,kv,lv,vd,?_,fun _ => ?_⟩
 ·show Blk w' g _ (cells c vm v kv lv vd (errV c.err))
  rw [h0]; exact hb
 ·refine ⟨hL.meth.kp (hL.methF.off fun k h e => h.2 e) hk,hL.methF.mono fun k h => ⟨.inl h.1,h.2⟩,hL.few,⟨some ⟨gv,0,none⟩,cv,hv,fun e => (by cases e),fun _ _ => ⟨gv,0,rfl⟩⟩,Rd.own hO,fun k h => ⟨.inr h,fun e => by have:=(hown k h).1; omega⟩,hL.many,hL.one,fun hbd => ?_⟩
  obtain ⟨f1,f2,f3,f4⟩:=hL.frame hbd
  refine ⟨f1,f2,f3,fun h3 => ?_⟩
  obtain ⟨f5,gd,Fd,e,d1,d2,d3,d4,d5⟩:=f4 h3
  exact ⟨f5,gd,Fd,e,d1.kp hk (fun k h e => d3 (e ▸ h)),fun k h => .inl (d2 k h),d3,d4,fun k h hf => by have:=(hown k h).1; have:=hlt k (d2 k hf); omega⟩
end Cn
end Go.Proofs.YtjffffpfejmoiaaGreatDoor
