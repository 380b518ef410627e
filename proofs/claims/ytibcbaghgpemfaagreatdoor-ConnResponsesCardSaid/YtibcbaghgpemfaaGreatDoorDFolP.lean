import Derived.Test.YtibcbaghgpemfaaGreatDoorNCutsP
import Derived.Test.YtibcbaghgpemfaaGreatDoorNDocP
import Derived.Test.YtibcbaghgpemfaaGreatDoorDRef
import Derived.Test.YtibcbaghgpemfaaGreatDoorGByt
namespace Go.Proofs.YtibcbaghgpemfaaGreatDoor
open Go.RowKit Syn Hd Fr Ck
namespace Cn
theorem fol_write (rs : Bool) (ms : List (List UInt8)) (l : List (List UInt8)) (b : List UInt8) :
  joined ((feed (new rs ms) l).2 ++ (write (feed (new rs ms) l).1 b).2) = docL (app (new rs ms) (l ++ [b]).flatten) false ∧ (write (feed (new rs ms) l).1 b).1.err = docE (app (new rs ms) (l ++ [b]).flatten) false:=by
 have h:=Fed.feed (c0:=new rs ms) rfl (l ++ [b]) (new_fed rs ms); rw [feed_snoc,List.nil_append,List.nil_append] at h
 exact doc_open h
theorem fol_close (rs : Bool) (ms : List (List UInt8)) (l : List (List UInt8)) :
  joined ((feed (new rs ms) l).2 ++ (close (feed (new rs ms) l).1).2) = docL (app (new rs ms) l.flatten) true ∧ (close (feed (new rs ms) l).1).1.err = docE (app (new rs ms) l.flatten) true:=by
 have h:=Fed.feed (c0:=new rs ms) rfl l (new_fed rs ms); rw [List.nil_append,List.nil_append] at h
 exact doc_close h
theorem close_dsum (c : C) : dsum (close c).2 = 0:=by
 unfold close
 split
 ·rfl
 ·split
  ·rfl
  ·split <;> rfl
structure FP (c0 : C) (X : List UInt8) (cl : Bool) (la lw : List Ev) (z : Int) : Prop where
 j : joined (la ++ lw) = docL (app c0 X) cl
 e : z = docE (app c0 X) cl
 na : NA false lw
 fw : ∀ x ∈ lw,EvF x
 fj : ∀ x ∈ joined (la ++ lw),EvF x
 nw : lw.length ≤ 40000
 na2 : (la ++ lw).length ≤ 40000
 nj : (joined (la ++ lw)).length ≤ 40000
 ds : dsum (la ++ lw) ≤ 4000000
theorem FP.write (rs : Bool) (ms : List (List UInt8)) (l : List (List UInt8)) (b : List UInt8) (h : (l ++ [b]).flatten.length ≤ 9000) :
  FP (new rs ms) (l ++ [b]).flatten false (feed (new rs ms) l).2 (Cn.write (feed (new rs ms) l).1 b).2 (Cn.write (feed (new rs ms) l).1 b).1.err:=by
 obtain ⟨h1,h2⟩:=fol_write rs ms l b
 have hf:=feed_few (l ++ [b]) _ (new_few rs ms); have hc:=feed_cnt (l ++ [b]) (new rs ms); have hd:=feed_dsum (l ++ [b]) (new rs ms); rw [feed_snoc] at hf hc hd
 have hp : pot (new rs ms) = 0:=rfl
 have hb : (new rs ms).buf.length = 0:=rfl
 rw [hp] at hc
 rw [hb] at hd
 simp only at hf hc hd
 have hl : ((feed (new rs ms) l).2 ++ (Cn.write (feed (new rs ms) l).1 b).2).length ≤ 18000:=by omega
 have hj:=foldl_cnt ((feed (new rs ms) l).2 ++ (Cn.write (feed (new rs ms) l).1 b).2) []; refine ⟨h1,h2,write_NA _ _,fun x hx => hf.2 x (List.mem_append_right _ hx),joined_few hf.2,?_,by omega,?_,by omega⟩
 ·rw [List.length_append] at hl; omega
 ·have : (joined ((feed (new rs ms) l).2 ++ (Cn.write (feed (new rs ms) l).1 b).2)).length ≤ 0 + ((feed (new rs ms) l).2 ++ (Cn.write (feed (new rs ms) l).1 b).2).length:=hj
  omega
theorem FP.close (rs : Bool) (ms : List (List UInt8)) (l : List (List UInt8)) (h : l.flatten.length ≤ 9000) :
  FP (new rs ms) l.flatten true (feed (new rs ms) l).2 (Cn.close (feed (new rs ms) l).1).2 (Cn.close (feed (new rs ms) l).1).1.err:=by
 obtain ⟨h1,h2⟩:=fol_close rs ms l
 have hf:=feed_few l _ (new_few rs ms); have hf2:=close_few hf.1; have hc:=feed_cnt l (new rs ms); have hd:=feed_dsum l (new rs ms); have hp : pot (new rs ms) = 0:=rfl
 have hb : (new rs ms).buf.length = 0:=rfl
 rw [hp] at hc
 rw [hb] at hd
 have hk:=close_cnt (feed (new rs ms) l).1; have hd2:=close_dsum (feed (new rs ms) l).1; have hfa : ∀ x ∈ (feed (new rs ms) l).2 ++ (Cn.close (feed (new rs ms) l).1).2,EvF x:=fun x hx => (List.mem_append.1 hx).elim (hf.2 x) (hf2.2 x)
 have hl : ((feed (new rs ms) l).2 ++ (Cn.close (feed (new rs ms) l).1).2).length ≤ 18001:=by rw [List.length_append]; omega
 have hj:=foldl_cnt ((feed (new rs ms) l).2 ++ (Cn.close (feed (new rs ms) l).1).2) []; refine ⟨h1,h2,NA.free (close_NA _),hf2.2,joined_few hfa,by omega,by omega,?_,by rw [dsum_app]; omega⟩
 have : (joined ((feed (new rs ms) l).2 ++ (Cn.close (feed (new rs ms) l).1).2)).length ≤ 0 + ((feed (new rs ms) l).2 ++ (Cn.close (feed (new rs ms) l).1).2).length:=hj
 omega
def FL (c : C) (la : List Ev) (X : List UInt8) (cl rs : Bool) (vm : Value) (g gx : Nat) (F : Nat → Prop) (wL : World) (all : Value) (wr : World) : Prop :=
 ∃ (F' : Nat → Prop) (ys : List Value),At wr g F' c ∧ (∀ k,F' k → F k ∨ wL.heap.size ≤ k) ∧ Kp (fun k => F k ∨ k = gx) wL wr ∧ Own wr wL.heap.size 144 8 all la.length ys ∧ Off F' all ∧
  DvsC wr (fun k => wL.heap.size ≤ k ∧ k < wr.heap.size ∧ ¬ F' k ∧ all.ownBlock ≠ some k) la ys ∧ Blk wr gx 84 #[.string (str X),.bool cl,.bool rs,vm]
section
variable {c : C} {la lw : List Ev} {X : List UInt8} {cl rs : Bool} {vm : Value} {g gx : Nat} {F : Nat → Prop} {wL : World} {all : Value} {w1 w2 w3 : World}
theorem FL.below (h : FL c la X cl rs vm g gx F wL all w1) (hb : Below w1.heap.size w1 w2) : FL c la X cl rs vm g gx F wL all w2:=by
 obtain ⟨F',ys,h1,h2,h3,h4,h5,h6,h7⟩:=h
 have hk : Kp (fun _ => False) w1 w2:=(Kp.refl _ w1).below hb
 exact ⟨F',ys,h1.kp hk (fun _ _ h => h),h2,h3.below hb,own_below h4 hb,h5,(h6.kp hk (fun _ _ h => h)).mono (fun k hp => ⟨hp.1,Nat.lt_of_lt_of_le hp.2.1 hb.size,hp.2.2⟩),h7.below hb⟩
theorem FL.push (h : FL c la X cl rs vm g gx F wL all w1) (hgx : gx < wL.heap.size) (hb : Below w1.heap.size w1 w2) {o2 : Value} {ys2 : List Value} (_ : Own w2 w1.heap.size 144 8 o2 lw.length ys2) (hD2 : DvsC w2 (fun b => w1.heap.size ≤ b ∧ b < w2.heap.size ∧ o2.ownBlock ≠ some b) lw ys2) :
  ∃ ys,Own w2 wL.heap.size 144 8 all la.length ys ∧ wL.heap.size ≤ w2.heap.size ∧ ∀ (v7 : Value) (w7 : World),Own w7 wL.heap.size 144 8 v7 (la.length + lw.length) (ys ++ ys2) → w2.grownBy w7 all.ownBlock → (v7.ownBlock = all.ownBlock ∨ v7.ownBlock = some w2.heap.size) → FL c (la ++ lw) X cl rs vm g gx F wL v7 w7:=by
 obtain ⟨F',ys,h1,h2,h3,h4,h5,h6,h7⟩:=h
 have hk : Kp (fun _ => False) w1 w2:=(Kp.refl _ w1).below hb
 have hlt : ∀ k,F' k → k < w1.heap.size:=fun k h => h1.2.1 k h
 have hz1:=h3.size; have hz2:=hb.size; refine ⟨ys,own_below h4 hb,by omega,fun v7 w7 ho7 hg7 hat7 => ?_⟩
 have hA : ∀ k,all.ownBlock = some k → wL.heap.size ≤ k ∧ k < w1.heap.size:=fun k e => World.ownsRow.lt h4 k e
 have hK : Kp (fun k => all.ownBlock = some k) w2 w7:=(Kp.refl (fun k => all.ownBlock = some k) w2).grown hg7 (fun k e _ => e)
 have hz3:=hK.size; refine ⟨F',ys ++ ys2,(h1.kp hk (fun _ _ h => h)).kp hK (fun k h e => h5 k e h),h2,(h3.below hb).next (fun k hl e => absurd hl (by have:=hA k e; omega)) hK,by rw [List.length_append]; exact ho7,fun k e h => ?_,DvsC.app (((h6.kp hk (fun _ _ h => h)).kp hK (fun k hp e => hp.2.2.2 e)).mono (fun k hp => ⟨hp.1,by have:=hp.2.1; omega,hp.2.2.1,fun e => ?_⟩)) ((hD2.kp hK (fun k hp e => by have:=hA k e; have:=hp.1; omega)).mono (fun k hp => ⟨by have:=hp.1; omega,by have:=hp.2.1; omega,fun h => by have:=hlt k h; have:=hp.1; omega,fun e => ?_⟩)),(h7.below hb).kp (fun e => by have:=hA gx e; omega) hK⟩
 ·rcases hat7 with h2 | h2
  ·exact h5 k (h2.symm.trans e) h
  ·have h3:=Option.some.inj (e.symm.trans h2)
   have:=hlt k h
   omega
 ·rcases hat7 with h2 | h2
  ·exact hp.2.2.2 (h2.symm.trans e)
  ·have h3:=Option.some.inj (e.symm.trans h2)
   have:=hp.2.1
   omega
 ·rcases hat7 with h2 | h2
  ·have:=hA k (h2.symm.trans e); have:=hp.1; omega
  ·have h3:=Option.some.inj (e.symm.trans h2)
   have:=hp.2.1
   omega
theorem FL.step {F' F5 M : Nat → Prop} {ys : List Value} {c' : C} {X' : List UInt8} {cl' : Bool} {wr w4 w5 w7 : World} (hFF : ∀ k,F' k → F k ∨ wL.heap.size ≤ k) (hKr : Kp (fun k => F k ∨ k = gx) wL wr) (hOr : Own wr wL.heap.size 144 8 all la.length ys) (hOff : Off F' all)
  (hDr : DvsC wr (fun k => wL.heap.size ≤ k ∧ k < wr.heap.size ∧ ¬ F' k ∧ all.ownBlock ≠ some k) la ys) (hgx : gx < wL.heap.size) (hb : Below wr.heap.size wr w4)
  (hFF5 : ∀ k,F5 k → F' k ∨ w4.heap.size ≤ k) (hk5 : Kp F' w4 w5) (hA5 : At w5 g F5 c') (hM : ∀ k,M k → ¬ F5 k ∧ (k = gx ∨ (wr.heap.size ≤ k ∧ k < w4.heap.size))) (hk7 : Kp M w5 w7) (hB7 : Blk w7 gx 84 #[.string (str X'),.bool cl',.bool rs,vm]) : FL c' la X' cl' rs vm g gx F wL all w7:=by
 have hz1:=hKr.size; have hz2:=hb.size; have hz3:=hk5.size; have hz4:=hk7.size; have hA : ∀ k,all.ownBlock = some k → wL.heap.size ≤ k ∧ k < wr.heap.size:=fun k e => World.ownsRow.lt hOr k e
 have hkb : Kp (fun _ => False) wr w4:=(Kp.refl _ wr).below hb
 refine ⟨F5,ys,hA5.kp hk7 (fun k h h2 => (hM k h2).1 h),fun k h => ?_,((hKr.below hb).next (fun k hl h => ?_) hk5).next (fun k hl h => ?_) hk7,((own_below hOr hb).kp hOff hk5).kp (fun k e h => ?_) hk7,fun k e h => ?_,(((hDr.kp hkb (fun _ _ h => h)).kp hk5 (fun k hp => hp.2.2.1)).kp hk7 (fun k hp h => ?_)).mono (fun k hp => ⟨hp.1,by have:=hp.2.1; omega,fun h => ?_,hp.2.2.2⟩),hB7⟩
 ·rcases hFF5 k h with h | h
  ·exact hFF k h
  ·exact .inr (by omega)
 ·rcases hFF k h with h | h
  ·exact .inl h
  ·exact absurd hl (by omega)
 ·rcases (hM k h).2 with h | h
  ·exact .inr h
  ·exact absurd hl (by omega)
 ·have h1:=hA k e
  rcases (hM k h).2 with h | h <;> omega
 ·have h1:=hA k e
  rcases hFF5 k h with h | h
  ·exact hOff k e h
  ·omega
 ·have h1:=hp.1
  have h2:=hp.2.1; rcases (hM k h).2 with h | h <;> omega
 ·have h2:=hp.2.1
  rcases hFF5 k h with h | h
  ·exact hp.2.2.1 h
  ·omega
end
end Cn
theorem push_dvs {ops : Array Oper} {rest : List Oper} {o : Oper} {a : Act} {Q : Exit → Act → World → Prop} {w : World} (s x : Operand)
  (hgd : o.guard = none) (ho : o.op = .call { callee:=.builtin .append,args:=#[s,x],argTypes:=#[92,92] })
  {B n m c : Nat} {v : Value} {xs news : List Value} {A : Option Addr} (hs : a.eval s = v) (hown : Own w B 144 8 v n xs) (hx : a.eval x = .slice A m c) (hR : Rd w 8 (.slice A m c) m news)
  (h1 : ∀ u ∈ news,u.oneCell' = true) (hn : n + m < 10000000) (hB : B ≤ w.heap.size)
  (h : ∀ v' w',Own w' B 144 8 v' (n + m) (xs ++ news) → w.grownBy w' v.ownBlock → (v'.ownBlock = v.ownBlock ∨ v'.ownBlock = some w.heap.size) → wpList Tryz.prog ops Q rest (a.put o.dst v') w') : wpList Tryz.prog ops Q (o :: rest) a w :=
 step_pushR 92 144 _ 8 136 s x hgd ho Tryz.underlying92 infoDv rfl (by decide) (by decide) hs hown hx hR h1 (by omega) hB h
theorem conv_inr (T : List UInt8) (W : World) : ∃ w' c,(convert 9 23 (.string (str T))).run Tryz.prog W = .ok (.slice (some ⟨W.heap.size,0,none⟩) T.length c) w' ∧ Rd w' 1 (.slice (some ⟨W.heap.size,0,none⟩) T.length c) T.length (u8s T) ∧ Below W.heap.size W w' ∧ InR w' W.heap.size T.length ∧ w'.heap.size = W.heap.size + 1 :=
 ⟨_,grownCap W T.length 0 5,Lib.run_convert_string_bytes W 9 23 5 (str T) Tryz.underlying9 Tryz.underlying23 Tryz.underlying5,(OwnM.conv W T).rd,conv_below W T,InR.conv W T,Lib.bytesWorld_size W _ _⟩
end Go.Proofs.YtibcbaghgpemfaaGreatDoor
