import Derived.Test.YtibcbaghgpemfaaGreatDoorNDocP
import Derived.Test.YtibcbaghgpemfaaGreatDoorDRef
import Derived.Test.YtibcbaghgpemfaaGreatDoorGCr
import Derived.Deep.CutBlock
import Derived.Deep.RegionHeld3
namespace Go.Proofs.YtibcbaghgpemfaaGreatDoor
open Go.RowKit Syn Hd Fr Ck
theorem wr_goodD : ∀ (l : List UInt8) (s : St),(s.bad ≠ 0 → s.place ≠ 8) → (Ck.wr s l).1.bad ≠ 0 → (Ck.wr s l).1.place ≠ 8
 | [],s,h => h
 | c :: r,s,h => by
  by_cases hs : s.bad ≠ 0 ∨ s.place = 8
  ·rw [wr_stop hs]; exact h
  ·by_cases hb : (Ck.step s c).bad ≠ 0
   ·rw [wr_bad hs hb]
    intro _; show (Ck.step s c).place ≠ 8
    rw [err_place (by omega) hb]; omega
   ·rw [wr_go hs hb]
    exact wr_goodD r (Ck.step s c) (fun h => absurd h hb)
theorem wr_good0 (l : List UInt8) : (Ck.wr Ck.zero l).1.bad ≠ 0 → (Ck.wr Ck.zero l).1.place ≠ 8:=wr_goodD l Ck.zero (fun h => absurd rfl h)
theorem drop_min (n : Nat) (l : List UInt8) : l.drop (min n l.length) = l.drop n:=by
 rcases Nat.le_total n l.length with h | h
 ·rw [Nat.min_eq_left h]
 ·rw [Nat.min_eq_right h,List.drop_of_length_le (Nat.le_refl _),List.drop_of_length_le h]
def DP (B : Nat) (X : Nat → Prop) (w : World) (v : Value) (g : Nat) (b : Nat) : Prop:=B ≤ b ∧ b < w.heap.size ∧ v.ownBlock ≠ some b ∧ b ≠ g ∧ b ≠ g + 2 ∧ ¬ X b
theorem tail_push {B g n : Nat} {X : Nat → Prop} {wx w7 : World} {t : TypeId} {a0 a1 a2 a4 a5 a6 vl v7 : Value} {l : List Cn.Ev} {ys : List Value} {e : Cn.Ev} {u0 u1 u2 u3 u4 u5 u6 u7 : Value} {o : Obj}
  (hX : Blk wx g t #[a0,a1,a2,vl,a4,a5,a6]) (_ : Own wx B 144 8 vl n ys) (hD : Cn.DvsC wx (DP B X wx vl g) l ys) (hg : vl.ownBlock ≠ some g) (_ : B ≤ wx.heap.size)
  (hE : Cn.DvC wx (DP B X wx vl g) e [u0,u1,u2,u3,u4,u5,u6,u7])
  (ho : Own w7 B 144 8 v7 (n + 1) (ys ++ [u0,u1,u2,u3,u4,u5,u6,u7])) (hgr : (wx.alloc o).grownBy w7 vl.ownBlock) (hat : v7.ownBlock = vl.ownBlock ∨ v7.ownBlock = some (wx.heap.size + 1)) :
  Blk (w7.setCell ⟨g,3,none⟩ v7) g t #[a0,a1,a2,v7,a4,a5,a6] ∧ Own (w7.setCell ⟨g,3,none⟩ v7) B 144 8 v7 (n + 1) (ys ++ [u0,u1,u2,u3,u4,u5,u6,u7]) ∧
   Cn.DvsC (w7.setCell ⟨g,3,none⟩ v7) (DP B X (w7.setCell ⟨g,3,none⟩ v7) v7 g) (l ++ [e]) (ys ++ [u0,u1,u2,u3,u4,u5,u6,u7]) ∧ Kp (fun b => b = g ∨ vl.ownBlock = some b) wx (w7.setCell ⟨g,3,none⟩ v7) ∧ v7.ownBlock ≠ some g ∧ (∀ b,v7.ownBlock = some b → vl.ownBlock = some b ∨ wx.heap.size ≤ b):=by
 have hgl:=hX.lt; have hX7:=Blk.grown8 (hX.alloc o) hgr hg; have hK7 : Kp (fun b => vl.ownBlock = some b) wx w7:=((Kp.refl (fun b => vl.ownBlock = some b) wx).alloc o).grown hgr (fun k e _ => e)
 have hz7:=hK7.size; have hg7 : v7.ownBlock ≠ some g:=fun e => by
  rcases hat with h | h
  ·exact hg (h.symm.trans e)
  ·have:=Option.some.inj (e.symm.trans h); omega
 have hK8 : Kp (fun b => b = g) w7 (w7.setCell ⟨g,3,none⟩ v7):=(Kp.refl (fun b => b = g) w7).set_ (fun _ => rfl) 3 _
 have hz8 : (w7.setCell ⟨g,3,none⟩ v7).heap.size = w7.heap.size:=size_setCell _ _ _
 have hP : ∀ b,DP B X wx vl g b → DP B X (w7.setCell ⟨g,3,none⟩ v7) v7 g b:=fun b hp => ⟨hp.1,by have:=hp.2.1; omega,fun e => by
  rcases hat with h | h
  ·exact hp.2.2.1 (h.symm.trans e)
  ·have h3:=Option.some.inj (e.symm.trans h); have:=hp.2.1; omega,hp.2.2.2⟩
 exact ⟨hX7.set_ 3 v7,ho.kp (fun k e (h : k = g) => hg7 (h ▸ e)) hK8,(((hD.kp hK7 (fun b hp e => hp.2.2.1 e)).kp hK8 (fun b hp e => hp.2.2.2.1 e)).mono hP).snoc (((hE.kp hK7 (fun b hp e => hp.2.2.1 e)).kp hK8 (fun b hp e => hp.2.2.2.1 e)).mono hP),(hK7.mono (fun b _ h => .inr h)).trans (hK8.mono (fun b _ h => .inl h)),hg7,fun b e => hat.elim (fun h => .inl (h.symm.trans e)) (fun h => .inr (by have h3:=Option.some.inj (e.symm.trans h); omega))⟩
namespace Cn
def dEnd (c : C) (cl : Bool) : Bool:=pDone c || (decide (c.kind = 4) && cl)
end Cn
def DbR (all : List UInt8) (cl : Bool) (heads used : Nat) (c : Cn.C) (B : Nat) (X : Nat → Prop) (l : List Cn.Ev) (vl : Value) (w : World) (e : Ending) (w' : World) : Prop :=
 ∃ (at' : Nat) (A' : Option Addr) (c' : Nat) (ys' : List Value),e = .returned (.agg #[.int .i64 (at' : Int),.int .i64 (heads : Int),.int .i64 ((used + (if Cn.dEnd c cl = true then 1 else 0) : Nat) : Int),.slice A' (l ++ Cn.evs (Cn.pData c) (Cn.dEnd c cl) (Cn.pTr c)).length c',.bool (decide (c.kind = 4)),.bool (!Cn.dEnd c cl && !decide (c.kind = 4)),.int .i64 (Cn.pErr c)]) ∧ at' ≤ all.length ∧ all.drop at' = Cn.pBuf c ∧
   Own w' B 144 8 (.slice A' (l ++ Cn.evs (Cn.pData c) (Cn.dEnd c cl) (Cn.pTr c)).length c') (l ++ Cn.evs (Cn.pData c) (Cn.dEnd c cl) (Cn.pTr c)).length ys' ∧ Cn.DvsC w' (fun b => B ≤ b ∧ b < w'.heap.size ∧ (Value.slice A' (l ++ Cn.evs (Cn.pData c) (Cn.dEnd c cl) (Cn.pTr c)).length c').ownBlock ≠ some b ∧ ¬ X b) (l ++ Cn.evs (Cn.pData c) (Cn.dEnd c cl) (Cn.pTr c)) ys' ∧ Kp (fun b => vl.ownBlock = some b) w w' ∧ (∀ b,(Value.slice A' (l ++ Cn.evs (Cn.pData c) (Cn.dEnd c cl) (Cn.pTr c)).length c').ownBlock = some b → vl.ownBlock = some b ∨ w.heap.size ≤ b)
set_option maxRecDepth 100000 in
set_option maxHeartbeats 8000000 in
theorem dbody_any (all : List UInt8) (cl rs : Bool) (Am : Option Addr) (nm cm : Nat) (at_ heads used : Nat) (c : Cn.C) (hbuf : c.buf = all.drop at_) (hat : at_ ≤ all.length) (hall : all.length ≤ 1000000) (hdec : c.dec = Ck.zero) (hk : c.kind = 1 ∨ c.kind = 2 ∨ c.kind = 3 ∨ c.kind = 4) (h1 : c.kind = 1 → c.len = 0) (hlen : c.len ≤ 1000000) (hus : used ≤ 1000000)
  {B : Nat} {l : List Cn.Ev} {ys : List Value} (Al : Option Addr) (cl2 : Nat) (w : World) (hO : Own w B 144 8 (.slice Al l.length cl2) l.length ys) (hB : B ≤ w.heap.size) (hn : l.length ≤ 1000000) {X : Nat → Prop} (hX : ∀ b,X b → b < w.heap.size) (hD : Cn.DvsC w (fun b => B ≤ b ∧ b < w.heap.size ∧ (Value.slice Al l.length cl2).ownBlock ≠ some b ∧ ¬ X b) l ys) :
  Calls Tryz.prog 143 #[.agg #[.string (str all),.bool cl,.bool rs,.slice Am nm cm],.agg #[.int .i64 (at_ : Int),.int .i64 (heads : Int),.int .i64 (used : Int),.slice Al l.length cl2,.bool false,.bool false,.int .i64 0],.agg #[.int .i64 (c.kind : Int),.int .i64 (c.len : Int)]] w (DbR all cl heads used c B X l (.slice Al l.length cl2) w):=by
 replace hX:=Hj hX; replace hD:=Hj hD; replace hO:=Hj hO; go_enter Tryz.func143,Tryz.ntmps143
 have hsz : (str all).size = all.length:=str_size all
 go_upto_region 4 with (fail)
 have hX3:=((Blk.new w 84 #[.string (str all),.bool cl,.bool rs,.slice Am nm cm]).alloc (.cells #[.int .i64 (at_ : Int),.int .i64 (heads : Int),.int .i64 (used : Int),.slice Al l.length cl2,.bool false,.bool false,.int .i64 0] 175)).alloc (.cells #[.int .i64 (c.kind : Int),.int .i64 (c.len : Int)] 189) |>.alloc (.cells #[.int .i64 0,.int .i64 0,.int .i64 0,.slice none 0 0,.bool false,.bool false,.int .i64 0] 175); have hX4:=((Blk.new (w.alloc (.cells #[.string (str all),.bool cl,.bool rs,.slice Am nm cm] 84)) 175 #[.int .i64 (at_ : Int),.int .i64 (heads : Int),.int .i64 (used : Int),.slice Al l.length cl2,.bool false,.bool false,.int .i64 0]).alloc (.cells #[.int .i64 (c.kind : Int),.int .i64 (c.len : Int)] 189)).alloc (.cells #[.int .i64 0,.int .i64 0,.int .i64 0,.slice none 0 0,.bool false,.bool false,.int .i64 0] 175); have hX5:=(Blk.new ((w.alloc (.cells #[.string (str all),.bool cl,.bool rs,.slice Am nm cm] 84)).alloc (.cells #[.int .i64 (at_ : Int),.int .i64 (heads : Int),.int .i64 (used : Int),.slice Al l.length cl2,.bool false,.bool false,.int .i64 0] 175)) 189 #[.int .i64 (c.kind : Int),.int .i64 (c.len : Int)]).alloc (.cells #[.int .i64 0,.int .i64 0,.int .i64 0,.slice none 0 0,.bool false,.bool false,.int .i64 0] 175); have hX6:=Blk.new (((w.alloc (.cells #[.string (str all),.bool cl,.bool rs,.slice Am nm cm] 84)).alloc (.cells #[.int .i64 (at_ : Int),.int .i64 (heads : Int),.int .i64 (used : Int),.slice Al l.length cl2,.bool false,.bool false,.int .i64 0] 175)).alloc (.cells #[.int .i64 (c.kind : Int),.int .i64 (c.len : Int)] 189)) 175 #[.int .i64 0,.int .i64 0,.int .i64 0,.slice none 0 0,.bool false,.bool false,.int .i64 0]
 have hB0:=((((Below.refl w.heap.size w).alloc (Nat.le_refl _) (.cells #[.string (str all),.bool cl,.bool rs,.slice Am nm cm] 84)).alloc (by simp) (.cells #[.int .i64 (at_ : Int),.int .i64 (heads : Int),.int .i64 (used : Int),.slice Al l.length cl2,.bool false,.bool false,.int .i64 0] 175)).alloc (by simp; omega) (.cells #[.int .i64 (c.kind : Int),.int .i64 (c.len : Int)] 189)).alloc (by simp; omega) (.cells #[.int .i64 0,.int .i64 0,.int .i64 0,.slice none 0 0,.bool false,.bool false,.int .i64 0] 175)
 simp only [alloc_size'] at hX3 hX4 hX5 hX6
 generalize (((w.alloc (.cells #[.string (str all),.bool cl,.bool rs,.slice Am nm cm] 84)).alloc (.cells #[.int .i64 (at_ : Int),.int .i64 (heads : Int),.int .i64 (used : Int),.slice Al l.length cl2,.bool false,.bool false,.int .i64 0] 175)).alloc (.cells #[.int .i64 (c.kind : Int),.int .i64 (c.len : Int)] 189)).alloc (.cells #[.int .i64 0,.int .i64 0,.int .i64 0,.slice none 0 0,.bool false,.bool false,.int .i64 0] 175) = w2 at *; have hrest : (str all).extract at_ all.length = str c.buf:=by
  rw [extract_str,bs_str,List.take_of_length_le (Nat.le_refl _),hbuf]
 rw [hrest]
 have hbl : c.buf.length + at_ = all.length:=by rw [hbuf,List.length_drop]; omega
 have hbz : (str c.buf).size = c.buf.length:=str_size _
 obtain ⟨G,hG⟩ : ∃ G,w.heap.size = G:=⟨_,rfl⟩
 have hGG:=hB0.size; rw [hG] at hX3 hX4 hX5 hX6 ⊢
 have fk : w2.cell? ⟨G + 1 + 1,0,none⟩ = some (.int .i64 (c.kind : Int)):=hX5.cell 0
 go_upto_block 0 with (fail)
 go_cut [8,9,10] (fun v8 v9 v10 wx => v8 = .string (str (Cn.pData c)) ∧ v9 = .bool (Cn.dEnd c cl) ∧ (∃ At ct,v10 = .slice At (Cn.pTr c).length ct ∧ Rd wx 2 (.slice At (Cn.pTr c).length ct) (Cn.pTr c).length (prs (Cn.pTr c)) ∧ (0 < (Cn.pTr c).length → On (fun b => w2.heap.size ≤ b) (.slice At (Cn.pTr c).length ct))) ∧ (∃ at' : Nat,at' ≤ all.length ∧ all.drop at' = Cn.pBuf c ∧ Blk wx (G + 1) 175 #[.int .i64 (at' : Int),.int .i64 (heads : Int),.int .i64 (used : Int),.slice Al l.length cl2,.bool (decide (c.kind = 4)),.bool false,.int .i64 (Cn.pErr c)]) ∧ Kp (fun b => b = G + 1) w2 wx)
 case first =>
  have x0 : w2.cell? ⟨G,0,none⟩ = some (.string (str all)):=hX3.cell 0
  have x1 : w2.cell? ⟨G,1,none⟩ = some (.bool cl):=hX3.cell 1
  have s0 : w2.cell? ⟨G + 1,0,none⟩ = some (.int .i64 (at_ : Int)):=hX4.cell 0
  have s4 : w2.cell? ⟨G + 1,4,none⟩ = some (.bool false):=hX4.cell 4
  have s6 : w2.cell? ⟨G + 1,6,none⟩ = some (.int .i64 0):=hX4.cell 6
  have z0:=hX4.frozen 0; have z4:=hX4.frozen 4; have z6:=hX4.frozen 6; have f1 : w2.cell? ⟨G + 1 + 1,1,none⟩ = some (.int .i64 (c.len : Int)):=hX5.cell 1
  replace hX3:=Hj hX3; replace hX4:=Hj hX4; replace hX6:=Hj hX6; replace hB0:=Hj hB0; clear hrest; have hbuf2:=Hj hbuf; clear hbuf; rcases hk with hk | hk | hk | hk
  ·have hl0:=h1 hk
   clear hX5; have e1 : Cn.pData c = []:=by unfold Cn.pData; rw [hk,hl0]; simp
   have e2 : Cn.dEnd c cl = true:=by unfold Cn.dEnd Cn.pDone; rw [hk,hl0]; simp
   have e3 : Cn.pTr c = []:=by unfold Cn.pTr; rw [hk]; simp
   have e4 : Cn.pBuf c = all.drop at_:=by unfold Cn.pBuf; rw [hk,hl0,← hbuf2.out]; simp
   have e5 : Cn.pErr c = 0:=by unfold Cn.pErr; rw [hk]; simp
   have e6 : decide (c.kind = 4) = false:=by rw [hk]; rfl
   have hka : (1 : Int) ≤ (c.kind : Int):=by omega
   have hkb : (c.kind : Int) ≤ 1:=by omega
   clear hk h1; go_wp2; go_meet; exact ⟨by rw [e1]; rfl,by rw [e2],⟨none,0,by rw [e3]; rfl,by rw [e3]; exact Rd.nil w2 2,fun h => by rw [e3] at h; cases h⟩,⟨at_,hat,e4.symm,by rw [e5,e6]; exact hX4.out⟩,Kp.refl _ _⟩
  ·clear hX5
   have e1 : Cn.pData c = c.buf.take c.len:=by unfold Cn.pData; rw [hk]; simp
   have e2 : Cn.dEnd c cl = decide (c.len ≤ c.buf.length):=by unfold Cn.dEnd Cn.pDone; rw [hk]; simp
   have e3 : Cn.pTr c = []:=by unfold Cn.pTr; rw [hk]; simp
   have e4 : Cn.pBuf c = c.buf.drop c.len:=by unfold Cn.pBuf; rw [hk]; simp
   have e5 : Cn.pErr c = 0:=by unfold Cn.pErr; rw [hk]; simp
   have e6 : decide (c.kind = 4) = false:=by rw [hk]; rfl
   have hka : (2 : Int) ≤ (c.kind : Int):=by omega
   have hkb : (c.kind : Int) ≤ 2:=by omega
   clear hk h1; obtain ⟨m,hm,hmle⟩ : ∃ m : Nat,min (c.len : Int) (c.buf.length : Int) = (m : Int) ∧ m = min c.len c.buf.length:=⟨min c.len c.buf.length,by omega,rfl⟩
   have hm1 : m ≤ c.buf.length:=by omega
   have hm2 : m ≤ c.len:=by omega
   have hx1 : (str c.buf).extract 0 m = str (c.buf.take c.len):=by
    rw [extract_str,bs_str,List.drop_zero,hmle]
    congr 1
    rcases Nat.le_total c.len c.buf.length with h | h
    ·rw [Nat.min_eq_left h]
    ·rw [Nat.min_eq_right h,List.take_of_length_le (Nat.le_refl _),List.take_of_length_le h]
   have hx2 : decide ((m : Int) = (c.len : Int)) = decide (c.len ≤ c.buf.length):=by
    by_cases h : c.len ≤ c.buf.length
    ·rw [decide_eq_true h,decide_eq_true (by omega)]
    ·rw [decide_eq_false h,decide_eq_false (by omega)]
   replace hmle:=Hj hmle; replace hx1:=Hj hx1; replace hx2:=Hj hx2; go_wp2_with fail
   go_region
   all_goals
    go_wp2
    go_meet; exact ⟨by rw [hx1.out,e1],by rw [e2,← hx2.out]; rfl,⟨none,0,by rw [e3]; rfl,by rw [e3]; exact Rd.nil _ 2,fun h => by rw [e3] at h; cases h⟩,⟨at_ + m,by omega,by rw [e4,← List.drop_drop,← hbuf2.out,hmle.out]; exact drop_min _ _,by rw [e5,e6]; exact (hX4.out.set_ 0 _)⟩,((Kp.refl (fun b => b = G + 1) w2).set_ (fun _ => rfl) 0 _).drew⟩
  ·have e1 : Cn.pData c = (Ck.wr Ck.zero c.buf).2.1:=by unfold Cn.pData; rw [hk,hdec]; simp
   have e3 : Cn.pTr c = (Ck.wr Ck.zero c.buf).1.fields:=by unfold Cn.pTr; rw [hk,hdec]; simp
   have e4 : Cn.pBuf c = c.buf.drop (Ck.wr Ck.zero c.buf).2.2:=by unfold Cn.pBuf; rw [hk,hdec]; simp
   have e5 : Cn.pErr c = ((Ck.wr Ck.zero c.buf).1.bad : Int):=by unfold Cn.pErr; rw [hk,hdec]; simp
   have e6 : decide (c.kind = 4) = false:=by rw [hk]; rfl
   have hgd:=wr_good0 c.buf; have e2 : Cn.dEnd c cl = decide ((Ck.wr Ck.zero c.buf).1.place = 8):=by
    unfold Cn.dEnd Cn.pDone
    rw [hk,hdec]
    by_cases h8 : (Ck.wr Ck.zero c.buf).1.place = 8
    ·have hb0 : (Ck.wr Ck.zero c.buf).1.bad = 0:=Decidable.byContradiction fun h => hgd h h8
     simp [h8,hb0]
    ·simp [h8]
   have hcnt:=wr_count c.buf Ck.zero; have hka : (3 : Int) ≤ (c.kind : Int):=by omega
   have hkb : (c.kind : Int) ≤ 3:=by omega
   clear hk h1; obtain ⟨cf,wf,hcf⟩:=conv_any c.buf
   obtain ⟨hcv,hRb,hbw⟩:=hcf w2
   generalize wf w2 = w3 at hcv hRb hbw
   generalize cf w2 = c3 at hcv hRb
   clear hcf; have hW : Calls Tryz.prog 174 #[.agg #[.int .i64 0,.int .i64 0,.int .i64 0,.int .i64 0,.int .i64 0,.int .i64 0,.int .i64 0,.string ⟨#[]⟩,.slice none 0 0,.int .i64 0],.slice (some ⟨w2.heap.size,0,none⟩) c.buf.length c3] w3 (RWr (fun j => j < w3.heap.size) w3 Ck.zero c.buf) :=
    rwrite_any (fun j => j < w3.heap.size) Ck.zero (fun _ => ok_zero) c.buf none 0 (some ⟨w2.heap.size,0,none⟩) c3 w3 (Rd.nil w3 2) hRb (by omega) (fun j h => h) (fun h => absurd h (Nat.lt_irrefl 0))
   have hz3:=hbw.size; replace hW:=Hj hW; replace hbw:=Hj hbw; replace hgd:=Hj hgd; clear hRb; go_wp2_with fail
   refine hW.out.mono ?_
   rintro e w4 ⟨A4,c4,vo,rfl,hf4,hvo,hb4,hof⟩
   generalize Ck.wr Ck.zero c.buf = wz at *; obtain ⟨sN,D,N⟩:=wz
   obtain ⟨Ao,co,rfl,-,-,-⟩:=Rd.own hvo
   have hcs:=fun w' (hb : Below w4.heap.size w4 w') => conv_all (l:=D) ((Rd.own hvo).below hb)
   generalize hnd : D.length = nd at *; generalize hnf : sN.fields.length = nf at *; have hDn : ∀ w',Calls Tryz.prog 175 #[.agg #[.int .i64 (sN.place : Int),.int .i64 (sN.digits : Int),.int .i64 (sN.number : Int),.int .i64 (sN.line : Int),.int .i64 (sN.total : Int),.int .i64 (sN.left : Int),.int .i64 (sN.sect : Int),.string (str sN.text),.slice A4 nf c4,.int .i64 (sN.bad : Int)]] w' fun e w'' => e = .returned (.bool (decide (sN.place = 8))) ∧ Below w'.heap.size w' w'':=fun w' => by
    refine (rdone_any sN A4 nf c4 w').mono ?_
    rintro e w'' ⟨rfl,rfl⟩
    exact ⟨rfl,(Below.refl _ _).alloc (Nat.le_refl _) _⟩
   replace hDn:=Hj hDn; replace hcs:=Hj hcs; replace hf4:=Hj hf4; replace hof:=Hj hof; have hz4:=hb4.size; replace hb4:=Hj hb4; clear hvo hW; unfold sv svC
   dsimp only
   go_wp2_with fail
   have hT:=Blk.new w4 215 #[.int .i64 (sN.place : Int),.int .i64 (sN.digits : Int),.int .i64 (sN.number : Int),.int .i64 (sN.line : Int),.int .i64 (sN.total : Int),.int .i64 (sN.left : Int),.int .i64 (sN.sect : Int),.string (str sN.text),.slice A4 nf c4,.int .i64 (sN.bad : Int)]; have hBt:=(Below.refl w4.heap.size w4).alloc (Nat.le_refl _) (.cells #[.int .i64 (sN.place : Int),.int .i64 (sN.digits : Int),.int .i64 (sN.number : Int),.int .i64 (sN.line : Int),.int .i64 (sN.total : Int),.int .i64 (sN.left : Int),.int .i64 (sN.sect : Int),.string (str sN.text),.slice A4 nf c4,.int .i64 (sN.bad : Int)] 215); obtain ⟨T,hTT⟩ : ∃ T,w4.heap.size = T:=⟨_,rfl⟩
   rw [hTT] at hT ⊢
   generalize w4.alloc (.cells #[.int .i64 (sN.place : Int),.int .i64 (sN.digits : Int),.int .i64 (sN.number : Int),.int .i64 (sN.line : Int),.int .i64 (sN.total : Int),.int .i64 (sN.left : Int),.int .i64 (sN.sect : Int),.string (str sN.text),.slice A4 nf c4,.int .i64 (sN.bad : Int)] 215) = w5 at *; have hS : ∀ w',Below w5.heap.size w5 w' → w'.cell? ⟨T,0,none⟩ = some (.int .i64 (sN.place : Int)) ∧ w'.cell? ⟨T,1,none⟩ = some (.int .i64 (sN.digits : Int)) ∧ w'.cell? ⟨T,2,none⟩ = some (.int .i64 (sN.number : Int)) ∧ w'.cell? ⟨T,3,none⟩ = some (.int .i64 (sN.line : Int)) ∧ w'.cell? ⟨T,4,none⟩ = some (.int .i64 (sN.total : Int)) ∧ w'.cell? ⟨T,5,none⟩ = some (.int .i64 (sN.left : Int)) ∧ w'.cell? ⟨T,6,none⟩ = some (.int .i64 (sN.sect : Int)) ∧ w'.cell? ⟨T,7,none⟩ = some (.string (str sN.text)) ∧ w'.cell? ⟨T,8,none⟩ = some (.slice A4 nf c4) ∧ w'.cell? ⟨T,9,none⟩ = some (.int .i64 (sN.bad : Int)) ∧ Sem.run Tryz.prog (convert 23 9 (.slice Ao nd co)) w' = .ok (.string (str D)) w':=fun w' hb => by
    have hY:=hT.below hb; exact ⟨hY.cell 0,hY.cell 1,hY.cell 2,hY.cell 3,hY.cell 4,hY.cell 5,hY.cell 6,hY.cell 7,hY.cell 8,hY.cell 9,hcs.out w' (hBt.trans (hb.mono hBt.size))⟩
   replace hS:=Hj hS; have hz5:=hBt.size; replace hBt:=Hj hBt; replace hT:=Hj hT; have hb55:=Hj (Below.refl w5.heap.size w5); obtain ⟨m0,m1,m2,m3,m4,m5,m6,m7,m8,m9,mc⟩:=hS.out w5 (Below.refl _ _)
   go_region_held3 (fun w' => w'.cell? ⟨T,0,none⟩ = some (.int .i64 (sN.place : Int)) ∧ w'.cell? ⟨T,1,none⟩ = some (.int .i64 (sN.digits : Int)) ∧ w'.cell? ⟨T,2,none⟩ = some (.int .i64 (sN.number : Int)) ∧ w'.cell? ⟨T,3,none⟩ = some (.int .i64 (sN.line : Int)) ∧ w'.cell? ⟨T,4,none⟩ = some (.int .i64 (sN.total : Int)) ∧ w'.cell? ⟨T,5,none⟩ = some (.int .i64 (sN.left : Int)) ∧ w'.cell? ⟨T,6,none⟩ = some (.int .i64 (sN.sect : Int)) ∧ w'.cell? ⟨T,7,none⟩ = some (.string (str sN.text)) ∧ w'.cell? ⟨T,8,none⟩ = some (.slice A4 nf c4) ∧ w'.cell? ⟨T,9,none⟩ = some (.int .i64 (sN.bad : Int)) ∧ Sem.run Tryz.prog (convert 23 9 (.slice Ao nd co)) w' = .ok (.string (str D)) w')
    (first | exact hS.out _ (by first | with_reducible exact Below.refl _ _ | with_reducible exact (Below.refl _ _).drew | with_reducible exact hb56.out))
    (first
     | (go_at_call 175; (first | with_reducible refine Calls.mono (hDn.out w5) ?_ | with_reducible refine Calls.mono (hDn.out w5.drew) ?_); rintro e w6 ⟨rfl,hb6⟩; have hb56 : Below w5.heap.size w5 w6:=(by first | exact hb6 | exact below_of_drew hb6); replace hb56:=Hj hb56; clear hb6))
   have hB26 : Below w2.heap.size w2 w6:=((hbw.out.trans (hb4.out.mono hz3)).trans (hBt.out.mono (Nat.le_trans hz3 hz4))).trans (hb56.out.mono (Nat.le_trans (Nat.le_trans hz3 hz4) hz5))
   have hX46:=hX4.out.below hB26; have s0' : w6.cell? ⟨G + 1,0,none⟩ = some (.int .i64 (at_ : Int)):=hX46.cell 0
   have s6' : w6.cell? ⟨G + 1,6,none⟩ = some (.int .i64 0):=hX46.cell 6
   have z0':=hX46.frozen 0; have z6':=hX46.frozen 6; have t9' : w6.cell? ⟨T,9,none⟩ = some (.int .i64 (sN.bad : Int)):=(hT.out.below hb56.out).cell 9
   have hTG : T ≠ G + 1:=by have:=hX4.out.lt; omega
   have hGT : G + 1 ≠ T:=Ne.symm hTG
   replace hB26:=Hj hB26; replace hX46:=Hj hX46; clear m0 m1 m2 m3 m4 m5 m6 m7 m8 m9 mc s0 s4 s6 z0 z4 z6 f1; go_wp2_with fail
   go_meet; have hNle : N ≤ c.buf.length:=hcnt
   have hK68 : Kp (fun b => b = G + 1) w6 ((w6.setCell ⟨G + 1,0,none⟩ (.int .i64 ((at_ : Int) + (N : Int)))).setCell ⟨G + 1,6,none⟩ (.int .i64 (sN.bad : Int))):=((Kp.refl (fun b => b = G + 1) w6).set_ (fun _ => rfl) 0 _).set_ (fun _ => rfl) 6 _
   have hb46 : Below w4.heap.size w4 w6:=hBt.out.trans (hb56.out.mono hz5)
   have hoff : 0 < nf → On (fun b => w2.heap.size ≤ b) (.slice A4 nf c4):=fun h k e => by
    have h1:=hof.out h k e; omega
   have hGl:=hX4.out.lt; have hRd:=Cn.rd_kp0 (hf4.out.below hb46) (fun h k e e2 => by have:=hoff h k e; omega) hK68
   exact ⟨by rw [e1],by rw [e2],⟨A4,c4,by rw [e3,hnf],by rw [e3,hnf]; exact hRd,fun h => by rw [e3,hnf] at h ⊢; exact hoff h⟩,⟨at_ + N,by omega,by rw [e4,← List.drop_drop,← hbuf2.out],by rw [e5,e6]; exact ((hX46.out.set_ 0 _).set_ 6 _)⟩,((Kp.refl (fun b => b = G + 1) w2).below hB26.out).trans hK68⟩
  ·have e1 : Cn.pData c = c.buf:=by unfold Cn.pData; rw [hk]; simp
   have e2 : Cn.dEnd c cl = cl:=by unfold Cn.dEnd Cn.pDone; rw [hk]; simp
   have e3 : Cn.pTr c = []:=by unfold Cn.pTr; rw [hk]; simp
   have e4 : Cn.pBuf c = []:=by unfold Cn.pBuf; rw [hk]; simp
   have e5 : Cn.pErr c = 0:=by unfold Cn.pErr; rw [hk]; simp
   have e6 : decide (c.kind = 4) = true:=by rw [hk]; rfl
   have hka : (4 : Int) ≤ (c.kind : Int):=by omega
   have hkb : (c.kind : Int) ≤ 4:=by omega
   clear hk h1 hX5; go_wp2_with fail
   go_region
   all_goals
    go_wp2; go_meet; exact ⟨by rw [e1],by rw [e2],⟨none,0,by rw [e3]; rfl,by rw [e3]; exact Rd.nil _ 2,fun h => by rw [e3] at h; cases h⟩,⟨all.length,Nat.le_refl _,by rw [e4]; exact List.drop_of_length_le (Nat.le_refl _),by rw [e5,e6]; exact ((hX4.out.set_ 4 _).set_ 0 _)⟩,(((Kp.refl (fun b => b = G + 1) w2).set_ (fun _ => rfl) 4 _).set_ (fun _ => rfl) 0 _).drew⟩
 case rest =>
  obtain ⟨rfl,rfl,⟨At,ct,rfl,hRt,hOt⟩,⟨at',hat',hdr,hXs⟩,hKx⟩:=hcut
  rename World => wx
  have hk2x:=hKx.size; have hX3x:=hX3.kp (show ¬ (G = G + 1) by omega) hKx; have hO2 : Own wx B 144 8 (.slice Al l.length cl2) l.length ys:=(own_below hO.out hB0).kp (fun k e h => by have:=(World.ownsRow.lt hO.out k e).2; omega) hKx
  have hXr:=hX6.kp (show ¬ (G + 1 + 1 + 1 = G + 1) by omega) hKx; have b0 : wx.cell? ⟨G + 1,0,none⟩ = some (.int .i64 (at' : Int)):=hXs.cell 0
  have b2 : wx.cell? ⟨G + 1,2,none⟩ = some (.int .i64 (used : Int)):=hXs.cell 2
  have b3 : wx.cell? ⟨G + 1,3,none⟩ = some (.slice Al l.length cl2):=hXs.cell 3
  have b4 : wx.cell? ⟨G + 1,4,none⟩ = some (.bool (decide (c.kind = 4))):=hXs.cell 4
  have r2:=hXs.frozen 2; have r3:=hXs.frozen 3; have r5:=hXs.frozen 5; have hgo : (Value.slice Al l.length cl2).ownBlock ≠ some (G + 1):=fun e => by have:=(World.ownsRow.lt hO.out _ e).2; omega
  have hDx : Cn.DvsC wx (DP B X wx (.slice Al l.length cl2) (G + 1)) l ys:=((hD.out.kp ((Kp.refl (fun _ => False) w).below hB0) (fun _ _ h => h)).kp hKx (fun b hp e => by have:=hp.2.1; omega)).mono (fun b hp => ⟨hp.1,by have:=hp.2.1; omega,hp.2.2.1,by have:=hp.2.1; omega,by have:=hp.2.1; omega,hp.2.2.2⟩)
  have hBx : B ≤ wx.heap.size:=by omega
  have hOt2 : 0 < (Cn.pTr c).length → On (fun b => w2.heap.size ≤ b ∧ b < wx.heap.size) (.slice At (Cn.pTr c).length ct):=fun h k e => ⟨hOt h k e,Rd.lt0 hRt h k e⟩
  replace hX3:=Hj hX3; replace hX4:=Hj hX4; replace hX6:=Hj hX6; replace hXs:=Hj hXs; replace hXr:=Hj hXr; replace hO2:=Hj hO2; replace hDx:=Hj hDx; replace hKx:=Hj hKx; replace hB0:=Hj hB0; replace hRt:=Hj hRt; replace hOt2:=Hj hOt2; replace hgo:=Hj hgo; replace hX3x:=Hj hX3x; clear hbuf hrest hbl hbz hk h1 hOt fk; go_upto_if 76 with (fail)
  generalize hbb : (!(str (Cn.pData c)).toList.isEmpty) = bb
  replace hbb:=Hj hbb; go_cut [] (fun w' => ∃ A1 c1 ys1,Blk w' (G + 1) 175 #[.int .i64 (at' : Int),.int .i64 (heads : Int),.int .i64 (used : Int),.slice A1 (l ++ (if Cn.pData c = [] then [] else [Cn.evData (Cn.pData c)])).length c1,.bool (decide (c.kind = 4)),.bool false,.int .i64 (Cn.pErr c)] ∧ Own w' B 144 8 (.slice A1 (l ++ (if Cn.pData c = [] then [] else [Cn.evData (Cn.pData c)])).length c1) (l ++ (if Cn.pData c = [] then [] else [Cn.evData (Cn.pData c)])).length ys1 ∧
   Cn.DvsC w' (DP B X w' (.slice A1 (l ++ (if Cn.pData c = [] then [] else [Cn.evData (Cn.pData c)])).length c1) (G + 1)) (l ++ (if Cn.pData c = [] then [] else [Cn.evData (Cn.pData c)])) ys1 ∧ Kp (fun b => b = G + 1 ∨ (Value.slice Al l.length cl2).ownBlock = some b) wx w' ∧ (Value.slice A1 (l ++ (if Cn.pData c = [] then [] else [Cn.evData (Cn.pData c)])).length c1).ownBlock ≠ some (G + 1) ∧ (∀ b,(Value.slice A1 (l ++ (if Cn.pData c = [] then [] else [Cn.evData (Cn.pData c)])).length c1).ownBlock = some b → (Value.slice Al l.length cl2).ownBlock = some b ∨ wx.heap.size ≤ b))
  case first =>
   cases bb with
   | false =>
    have hd : Cn.pData c = []:=by
     have h:=hbb.out; rw [str_toList] at h
     cases hx : Cn.pData c with
     | nil => rfl
     | cons a b => rw [hx] at h; cases h
    go_wp2; go_meet; rw [if_pos hd,List.append_nil]
    exact ⟨Al,cl2,ys,hXs.out,hO2.out,hDx.out,Kp.refl _ _,hgo.out,fun b e => .inl e⟩
   | true =>
    have hd : ¬ Cn.pData c = []:=fun e => by
     have h:=hbb.out; rw [str_toList,e] at h
     cases h
    go_wp2_with (at_builtin; refine push_dv _ _ rfl rfl rfl hO2.out (by rfl) (by intro u hu; simp only [List.mem_cons,List.mem_nil_iff,or_false] at hu; rcases hu with rfl | rfl | rfl | rfl | rfl | rfl | rfl | rfl <;> rfl) (by omega) (by omega) ?_; intro v7 w7 ho7 hg7 hat7; obtain ⟨i1,i2,i3,i4,i5,i6⟩:=tail_push hXs.out hO2.out hDx.out hgo.out hBx (e:=Cn.evData (Cn.pData c)) ⟨_,_,_,rfl,Rd.nil _ 2,fun h => absurd h (Nat.lt_irrefl 0),Rd.nil _ 2,fun h => absurd h (Nat.lt_irrefl 0),Rd.nil _ 2,fun h => absurd h (Nat.lt_irrefl 0)⟩ ho7 hg7 hat7; have hX7:=Blk.grown8 (hXs.out.alloc _) hg7 hgo.out; have d3:=hX7.cell 3; have e3:=hX7.frozen 3; obtain ⟨A7,c7,rfl,-,-,-⟩:=Rd.own ho7; replace i1:=Hj i1; replace i2:=Hj i2; replace i3:=Hj i3; replace i4:=Hj i4; replace i5:=Hj i5; replace i6:=Hj i6; clear ho7 hg7 hat7 hX7)
    go_meet; rw [if_neg hd]
    have hl : (l ++ [Cn.evData (Cn.pData c)]).length = l.length + 1:=by rw [List.length_append,List.length_singleton]
    rw [hl]
    exact ⟨_,_,_,i1.out,i2.out,i3.out,i4.out,i5.out,i6.out⟩
  case rest =>
   obtain ⟨A1,c1,ys1,hX1,hO1,hD1,hK1,hg1,hf1⟩:=hcut
   rename World => wy
   have hev : l ++ Cn.evs (Cn.pData c) (Cn.dEnd c cl) (Cn.pTr c) = (l ++ (if Cn.pData c = [] then [] else [Cn.evData (Cn.pData c)])) ++ (if Cn.dEnd c cl = true then [Cn.evEnd (Cn.pTr c)] else []):=by unfold Cn.evs; rw [List.append_assoc]
   have hll : (l ++ (if Cn.pData c = [] then [] else [Cn.evData (Cn.pData c)])).length ≤ 1000001:=by rw [List.length_append]; split <;> simp <;> omega
   generalize (l ++ (if Cn.pData c = [] then [] else [Cn.evData (Cn.pData c)])) = l1 at *; generalize hdd : Cn.dEnd c cl = dd at *; have hxy:=hK1.size; have hXry:=hXr.out.kp (fun h => by
    rcases h with h | h
    ·omega
    ·have:=(World.ownsRow.lt hO.out _ h).2; omega) hK1
   have y0 : wy.cell? ⟨G + 1,0,none⟩ = some (.int .i64 (at' : Int)):=hX1.cell 0
   have y1 : wy.cell? ⟨G + 1,1,none⟩ = some (.int .i64 (heads : Int)):=hX1.cell 1
   have y2 : wy.cell? ⟨G + 1,2,none⟩ = some (.int .i64 (used : Int)):=hX1.cell 2
   have y3 : wy.cell? ⟨G + 1,3,none⟩ = some (.slice A1 l1.length c1):=hX1.cell 3
   have y4 : wy.cell? ⟨G + 1,4,none⟩ = some (.bool (decide (c.kind = 4))):=hX1.cell 4
   have y5 : wy.cell? ⟨G + 1,5,none⟩ = some (.bool false):=hX1.cell 5
   have y6 : wy.cell? ⟨G + 1,6,none⟩ = some (.int .i64 (Cn.pErr c)):=hX1.cell 6
   have v2:=hX1.frozen 2; have v3:=hX1.frozen 3; have v5:=hX1.frozen 5; have w0 : wy.cell? ⟨G + 1 + 1 + 1,0,none⟩ = some (.int .i64 0):=hXry.cell 0
   have w1 : wy.cell? ⟨G + 1 + 1 + 1,1,none⟩ = some (.int .i64 0):=hXry.cell 1
   have w2' : wy.cell? ⟨G + 1 + 1 + 1,2,none⟩ = some (.int .i64 0):=hXry.cell 2
   have w3' : wy.cell? ⟨G + 1 + 1 + 1,3,none⟩ = some (.slice none 0 0):=hXry.cell 3
   have w4' : wy.cell? ⟨G + 1 + 1 + 1,4,none⟩ = some (.bool false):=hXry.cell 4
   have w5' : wy.cell? ⟨G + 1 + 1 + 1,5,none⟩ = some (.bool false):=hXry.cell 5
   have w6' : wy.cell? ⟨G + 1 + 1 + 1,6,none⟩ = some (.int .i64 0):=hXry.cell 6
   have n0:=hXry.frozen 0; have n1:=hXry.frozen 1; have n2:=hXry.frozen 2; have n3:=hXry.frozen 3; have n4:=hXry.frozen 4; have n5:=hXry.frozen 5; have n6:=hXry.frozen 6; generalize hk4 : decide (c.kind = 4) = k4 at *; replace hk4:=hk4; clear b0 b2 b3 b4 r2 r3 r5; have hGz:=hXr.out.lt; have hGw : G ≤ w2.heap.size:=by omega
   have hfin : ∀ (wf : World) (vf : Value) (l2 : List Cn.Ev) (ys2 : List Value),Own wf B 144 8 vf l2.length ys2 → Cn.DvsC wf (DP B X wf vf (G + 1)) l2 ys2 → Kp (fun b => b = G + 1 ∨ b = G + 1 + 1 + 1 ∨ (Value.slice A1 l1.length c1).ownBlock = some b) wy wf →
     Cn.DvsC wf (fun b => B ≤ b ∧ b < wf.heap.size ∧ vf.ownBlock ≠ some b ∧ ¬ X b) l2 ys2 ∧ Kp (fun b => (Value.slice Al l.length cl2).ownBlock = some b) w wf:=fun wf vf l2 ys2 ho hd hk => by
    refine ⟨hd.mono (fun b hp => ⟨hp.1,hp.2.1,hp.2.2.1,hp.2.2.2.2.2⟩),((((Kp.refl _ w).below hB0.out).next (fun k hk2 (e : k = G + 1) => absurd hk2 (by omega)) hKx.out).next (fun k hk2 h => ?_) hK1).next (fun k hk2 h => ?_) hk⟩
    ·rcases h with h | h
     ·exact absurd hk2 (by omega)
     ·exact h
    ·rcases h with h | h | h
     ·exact absurd hk2 (by omega)
     ·exact absurd hk2 (by omega)
     ·rcases hf1 k h with h | h
      ·exact h
      ·exact absurd hk2 (by omega)
   have hxw : w.heap.size ≤ wy.heap.size:=by omega
   have hfo : ∀ b,(Value.slice A1 l1.length c1).ownBlock = some b → (Value.slice Al l.length cl2).ownBlock = some b ∨ w.heap.size ≤ b:=fun b e => (hf1 b e).imp id (fun h => by omega)
   replace hfo:=Hj hfo; replace hxw:=Hj hxw; have hg3 : ∀ b,(Value.slice A1 l1.length c1).ownBlock = some b → b ≠ G + 1 + 1 + 1:=fun b e h => by
    rcases hf1 b e with h2 | h2
    ·have:=(World.ownsRow.lt hO.out b h2).2; omega
    ·omega
   replace hfin:=Hj hfin; replace hg3:=Hj hg3; replace hK1:=Hj hK1; replace hX1:=Hj hX1; replace hO1:=Hj hO1; replace hD1:=Hj hD1; replace hg1:=Hj hg1; replace hf1:=Hj hf1; replace hXry:=Hj hXry; replace hev:=Hj hev; cases dd with
   | false =>
    go_wp2_with fail
    all_goals
     refine ret_one rfl rfl rfl (t:=175) (g:=G + 1 + 1 + 1) (cs:=#[.int .i64 (at' : Int),.int .i64 (heads : Int),.int .i64 (used : Int),.slice A1 l1.length c1,.bool k4,.bool (!k4),.int .i64 (Cn.pErr c)]) ?_ Tryz.underlying175 rfl (by kernel_rfl) ?_
     ·exact (((((((hXry.out.far (p:=⟨G + 1,5,none⟩) (by show G + 1 + 1 + 1 ≠ G + 1; omega) _).set_ 0 _).set_ 1 _).set_ 2 _).set_ 3 _).set_ 4 _).set_ 5 _).set_ 6 _
     ·have hKf:=(((((((((Kp.refl (fun b => b = G + 1 ∨ b = G + 1 + 1 + 1) wy).set_ (g:=G + 1) (fun _ => .inl rfl) 5 (.bool (!k4))).set_ (g:=G + 1 + 1 + 1) (fun _ => .inr rfl) 0 (.int .i64 (at' : Int))).set_ (g:=G + 1 + 1 + 1) (fun _ => .inr rfl) 1 (.int .i64 (heads : Int))).set_ (g:=G + 1 + 1 + 1) (fun _ => .inr rfl) 2 (.int .i64 (used : Int))).set_ (g:=G + 1 + 1 + 1) (fun _ => .inr rfl) 3 (.slice A1 l1.length c1)).set_ (g:=G + 1 + 1 + 1) (fun _ => .inr rfl) 4 (.bool k4)).set_ (g:=G + 1 + 1 + 1) (fun _ => .inr rfl) 5 (.bool (!k4))).set_ (g:=G + 1 + 1 + 1) (fun _ => .inr rfl) 6 (.int .i64 (Cn.pErr c)))
      have hOf:=hO1.out.kp (fun b e h => h.elim (fun h => hg1.out (h ▸ e)) (fun h => hg3.out b e h)) hKf; have hDf:=hD1.out.kp hKf (fun b hp h => h.elim hp.2.2.2.1 hp.2.2.2.2.1); have hDf2:=hDf.mono (Q:=DP B X _ (.slice A1 l1.length c1) (G + 1)) (fun b hp => ⟨hp.1,Nat.lt_of_lt_of_le hp.2.1 hKf.size,hp.2.2⟩); obtain ⟨m1,m2⟩:=hfin.out _ _ _ _ hOf hDf2 (hKf.mono (fun b _ h => h.elim .inl (fun h => .inr (.inl h))))
      have hev2:=hev.out; rw [if_neg (by decide),List.append_nil] at hev2
      unfold DbR
      rw [hdd,hev2]
      exact ⟨at',A1,c1,ys1,by rw [if_neg (by decide),← hk4]; simp,hat',hdr,hOf,m1,m2,hfo.out⟩
   | true =>
    have hG3:=hX6.out.lt; have hET : Cn.DvC wy (DP B X wy (.slice A1 l1.length c1) (G + 1)) (Cn.evEnd (Cn.pTr c)) [.int .i64 3,.string ⟨#[]⟩,.string ⟨#[]⟩,.slice none 0 0,.int .i64 0,.slice none 0 0,.string ⟨#[]⟩,.slice At (Cn.pTr c).length ct]:=by
     refine ⟨_,_,_,rfl,Rd.nil _ 2,fun h => absurd h (Nat.lt_irrefl 0),Rd.nil _ 2,fun h => absurd h (Nat.lt_irrefl 0),Cn.rd_kp0 hRt.out (fun h k e h2 => ?_) hK1.out,fun h k e => ⟨?_,?_,fun e2 => ?_,?_,?_,fun hx => ?_⟩⟩
     ·have h3:=hOt2.out h k e
      rcases h2 with h2 | h2
      ·omega
      ·have:=(World.ownsRow.lt hO.out k h2).2; omega
     ·have h3:=hOt2.out h k e; omega
     ·have h3:=hOt2.out h k e; omega
     ·have h3:=hOt2.out h k e
      rcases hf1.out k e2 with h4 | h4
      ·have:=(World.ownsRow.lt hO.out k h4).2; omega
      ·omega
     ·have h3:=hOt2.out h k e; omega
     ·have h3:=hOt2.out h k e; omega
     ·have h3:=hOt2.out h k e; have h4:=hX.out k hx; omega
    replace hET:=Hj hET; go_wp2_with (at_builtin; refine push_dv _ _ rfl rfl rfl hO1.out (by rfl) (by intro u hu; simp only [List.mem_cons,List.mem_nil_iff,or_false] at hu; rcases hu with rfl | rfl | rfl | rfl | rfl | rfl | rfl | rfl <;> rfl) (by omega) (by omega) ?_; intro v7 w7 ho7 hg7 hat7; obtain ⟨i1,i2,i3,i4,i5,i6⟩:=tail_push hX1.out hO1.out hD1.out hg1.out (by omega) hET.out ho7 hg7 hat7; have hX7:=Blk.grown8 (hX1.out.alloc _) hg7 hg1.out; have hXr7:=Blk.grown8 (hXry.out.alloc _) hg7 (fun e => hg3.out _ e rfl); have p0:=hX7.cell 0; have p1:=hX7.cell 1; have p2:=hX7.cell 2; have p3:=hX7.cell 3; have p4:=hX7.cell 4; have p5:=hX7.cell 5; have p6:=hX7.cell 6; have pf2:=hX7.frozen 2; have pf3:=hX7.frozen 3; have pf5:=hX7.frozen 5; have s0:=hXr7.cell 0; have s1:=hXr7.cell 1; have s2:=hXr7.cell 2; have s3:=hXr7.cell 3; have s4:=hXr7.cell 4; have s5:=hXr7.cell 5; have s6:=hXr7.cell 6; have sf0:=hXr7.frozen 0; have sf1:=hXr7.frozen 1; have sf2:=hXr7.frozen 2; have sf3:=hXr7.frozen 3; have sf4:=hXr7.frozen 4; have sf5:=hXr7.frozen 5; have sf6:=hXr7.frozen 6; obtain ⟨A7,c7,rfl,-,-,-⟩:=Rd.own ho7; replace i1:=Hj i1; replace i2:=Hj i2; replace i3:=Hj i3; replace i4:=Hj i4; replace i5:=Hj i5; replace i6:=Hj i6; replace hXr7:=Hj hXr7; clear ho7 hg7 hat7 hX7 y0 y1 y2 y3 y4 y5 y6 v2 v3 v5 w0 w1 w2' w3' w4' w5' w6' n0 n1 n2 n3 n4 n5 n6)
    refine ret_one rfl rfl rfl (t:=175) (g:=G + 1 + 1 + 1) (cs:=#[.int .i64 (at' : Int),.int .i64 (heads : Int),.int .i64 ((used : Int) + 1),.slice A7 (l1.length + 1) c7,.bool k4,.bool false,.int .i64 (Cn.pErr c)]) ?_ Tryz.underlying175 rfl (by kernel_rfl) ?_
    ·exact (((((((((hXr7.out.far (p:=⟨G + 1,3,none⟩) (by show G + 1 + 1 + 1 ≠ G + 1; omega) _).far (p:=⟨G + 1,2,none⟩) (by show G + 1 + 1 + 1 ≠ G + 1; omega) _).far (p:=⟨G + 1,5,none⟩) (by show G + 1 + 1 + 1 ≠ G + 1; omega) _).set_ 0 _).set_ 1 _).set_ 2 _).set_ 3 _).set_ 4 _).set_ 5 _).set_ 6 _
    ·have hKf:=(((((((((Kp.refl (fun b => b = G + 1 ∨ b = G + 1 + 1 + 1) (w7.setCell ⟨G + 1,3,none⟩ (.slice A7 (l1.length + 1) c7))).set_ (g:=G + 1) (fun _ => .inl rfl) 2 (.int .i64 ((used : Int) + 1))).set_ (g:=G + 1) (fun _ => .inl rfl) 5 (.bool false)).set_ (g:=G + 1 + 1 + 1) (fun _ => .inr rfl) 0 (.int .i64 (at' : Int))).set_ (g:=G + 1 + 1 + 1) (fun _ => .inr rfl) 1 (.int .i64 (heads : Int))).set_ (g:=G + 1 + 1 + 1) (fun _ => .inr rfl) 2 (.int .i64 ((used : Int) + 1))).set_ (g:=G + 1 + 1 + 1) (fun _ => .inr rfl) 3 (.slice A7 (l1.length + 1) c7)).set_ (g:=G + 1 + 1 + 1) (fun _ => .inr rfl) 4 (.bool k4)).set_ (g:=G + 1 + 1 + 1) (fun _ => .inr rfl) 5 (.bool false)).set_ (g:=G + 1 + 1 + 1) (fun _ => .inr rfl) 6 (.int .i64 (Cn.pErr c))
     have hg37 : ∀ b,(Value.slice A7 (l1.length + 1) c7).ownBlock = some b → b ≠ G + 1 + 1 + 1:=fun b e h => by
      rcases i6.out b e with h2 | h2
      ·exact hg3.out b h2 h
      ·omega
     have hOf:=i2.out.kp (fun b e h => h.elim (fun h => i5.out (h ▸ e)) (fun h => hg37 b e h)) hKf; have hDf:=i3.out.kp hKf (fun b hp h => h.elim hp.2.2.2.1 hp.2.2.2.2.1); have hDf2:=hDf.mono (Q:=DP B X _ (.slice A7 (l1.length + 1) c7) (G + 1)) (fun b hp => ⟨hp.1,Nat.lt_of_lt_of_le hp.2.1 hKf.size,hp.2.2⟩); have hl2 : (l1 ++ [Cn.evEnd (Cn.pTr c)]).length = l1.length + 1:=by rw [List.length_append,List.length_singleton]
     obtain ⟨m1,m2⟩:=hfin.out _ _ (l1 ++ [Cn.evEnd (Cn.pTr c)]) _ (by rw [hl2]; exact hOf) hDf2 ((i4.out.mono (fun b _ h => h.elim .inl (fun h => .inr (.inr h)))).trans (hKf.mono (fun b _ h => h.elim .inl (fun h => .inr (.inl h)))))
     have hev2:=hev.out; simp only [if_true] at hev2
     unfold DbR
     rw [hdd,hev2,hl2]
     exact ⟨at',A7,c7,_,by rw [if_pos rfl,← hk4]; simp,hat',hdr,hOf,m1,m2,fun b e => (i6.out b e).elim (hfo.out b) (fun h => .inr (by have:=hxw.out; omega))⟩
end Go.Proofs.YtibcbaghgpemfaaGreatDoor
