import Derived.Test.YtibcbaghgpemfaaGreatDoorGDp
import Derived.Test.YtibcbaghgpemfaaGreatDoorGHd
import Derived.Test.YtibcbaghgpemfaaGreatDoorGPl
namespace Go.Proofs.YtibcbaghgpemfaaGreatDoor
open Go.RowKit Syn Fr Hd Ck
namespace Hd
def DrR (w : World) (b : List UInt8) (e : Ending) (w' : World) : Prop :=
 ((rrE b ≠ 0 ∧ e = .returned (.tuple #[.agg #[.int .i64 0,.slice none 0 0],.int .i64 0,.int .i64 (rrE b)])) ∨ (rrE b = 0 ∧ ∃ o,e = .returned (.tuple #[.agg #[.int .i64 (rrS b),o],.int .i64 (endF b),.int .i64 0]) ∧ Own w' w.heap.size 170 2 o (rrL b).length (prs (rrL b)))) ∧ Below w.heap.size w w'
theorem DrR.bad {w : World} {b : List UInt8} {n : Int} (h : rrE b = n) (h0 : n ≠ 0) (w' : World) (hb : Below w.heap.size w w') : DrR w b (.returned (.tuple #[.agg #[.int .i64 0,.slice none 0 0],.int .i64 0,.int .i64 n])) w' :=
 ⟨.inl ⟨by rw [h]; exact h0,by rw [h]⟩,hb⟩
theorem DrR.good {w w' : World} {b : List UInt8} {o : Value} (h : rrE b = 0) (ho : Own w' w.heap.size 170 2 o (rrL b).length (prs (rrL b))) (hb : Below w.heap.size w w') : DrR w b (.returned (.tuple #[.agg #[.int .i64 (rrS b),o],.int .i64 (endF b),.int .i64 0])) w' :=
 ⟨.inr ⟨h,o,rfl,ho⟩,hb⟩
def DqR (w : World) (b : List UInt8) (e : Ending) (w' : World) : Prop :=
 ((rqE b ≠ 0 ∧ e = .returned (.tuple #[.agg #[.string ByteArray.empty,.string ByteArray.empty,.slice none 0 0],.int .i64 0,.int .i64 (rqE b)])) ∨ (rqE b = 0 ∧ ∃ o,e = .returned (.tuple #[.agg #[.string (str (rqM b)),.string (str (rqT b)),o],.int .i64 (endF b),.int .i64 0]) ∧ Own w' w.heap.size 170 2 o (rqL b).length (prs (rqL b)))) ∧ Below w.heap.size w w'
theorem DqR.bad {w : World} {b : List UInt8} {n : Int} (h : rqE b = n) (h0 : n ≠ 0) (w' : World) (hb : Below w.heap.size w w') : DqR w b (.returned (.tuple #[.agg #[.string ByteArray.empty,.string ByteArray.empty,.slice none 0 0],.int .i64 0,.int .i64 n])) w' :=
 ⟨.inl ⟨by rw [h]; exact h0,by rw [h]⟩,hb⟩
theorem DqR.good {w w' : World} {b : List UInt8} {o : Value} (h : rqE b = 0) (ho : Own w' w.heap.size 170 2 o (rqL b).length (prs (rqL b))) (hb : Below w.heap.size w w') : DqR w b (.returned (.tuple #[.agg #[.string (str (rqM b)),.string (str (rqT b)),o],.int .i64 (endF b),.int .i64 0])) w' :=
 ⟨.inr ⟨h,o,rfl,ho⟩,hb⟩
theorem hdV_low (l : List UInt8) : Syn.lower (hdV l).1 = (hdV l).1:=by
 unfold hdV
 split
 ·show Syn.lower (nmV (hdN l)) = nmV (hdN l)
  unfold nmV
  split
  ·exact lower_lower _
  ·rfl
 ·rfl
theorem repR_rqF {L : List (List UInt8)} {h : List UInt8} (hx : hsX (L.map hdV) = some h) : (L.map hdV).map repR = rqF (L.map hdV):=by
 unfold rqF
 rw [hx,Option.getD_some]
 have hone : ∃ x,allV (L.map hdV) hostN = [x] ∧ h = Syn.lower x:=by
  unfold hsX at hx
  split at hx
  ·next x he =>
   split at hx
   ·cases hx; exact ⟨x,he,rfl⟩
   ·cases hx
  ·cases hx
 obtain ⟨x,hx1,rfl⟩:=hone
 refine List.map_congr_left fun p hp => ?_
 have hlow : Syn.lower p.1 = p.1:=by obtain ⟨l,-,rfl⟩:=List.mem_map.1 hp; exact hdV_low l
 unfold repR rep
 by_cases h1 : Syn.lower p.1 = hostN
 ·rw [if_pos h1,if_pos h1]
  have hm : p.2 ∈ allV (L.map hdV) hostN:=by
   unfold allV
   rw [List.mem_map]
   exact ⟨p,List.mem_filter.2 ⟨hp,by rw [low_host]; simpa using h1⟩,rfl⟩
  rw [hx1,List.mem_singleton] at hm
  rw [hm,← hlow,h1]
 ·rw [if_neg h1,if_neg h1]
end Hd
set_option maxRecDepth 100000 in
set_option maxHeartbeats 32000000 in
theorem rreadresp_any (s : ByteArray) (w : World) (hs : s.size ≤ 1000000) :
  Calls Tryz.prog 28 #[.string s] w (DrR w (bs s)):=by
 have hSp:=fun w => rsplit_any s w hs
 unfold DsR at hSp
 have hsz:=bs_length s; have hK0:=Hj (Blk.new w 62 #[.int .i64 0,.slice none 0 0]); have hB0:=Hj ((Below.refl w.heap.size w).alloc (Nat.le_refl _) (.cells #[.int .i64 0,.slice none 0 0] 62)); generalize bs s = b at hSp hsz ⊢
 replace hSp:=Hj hSp; have hE : rrE b = if lnE b = 0 then rrX (lnL b) else lnE b:=rfl
 go_enter Tryz.func28,Tryz.ntmps28
 go_wp2_with fail
 refine (hSp.out _).mono ?_
 rintro e w1 ⟨h1,hb1⟩
 have hK1:=Hj (hK0.out.below hb1); have hB1:=Hj (Below.next hB0.out hB0.out.size hb1); clear hb1; rcases h1 with ⟨k1,rfl⟩ | ⟨k1,A1,c1,rfl,hr1⟩
 ·rw [if_neg k1] at hE
  have hR:=Hj (DrR.bad (w:=w) hE k1); have q1 : (lnE b != 0) = true:=by simpa using k1
  replace hE:=Hj hE; replace k1:=Hj k1; generalize lnE b = n at *; have f0:=hK1.out.cell 0; have f1:=hK1.out.cell 1; have g0:=hK1.out.frozen 0; have g1:=hK1.out.frozen 1; go_wp2; exact ret_blk3 rfl rfl rfl (hK1.out.two (.int .i64 0) (.slice none 0 0)) Tryz.underlying62 rfl (by kernel_rfl) (hR.out _ ((hB1.out.setCell (p:=⟨w.heap.size,0,none⟩) (Nat.le_refl _) _).setCell (p:=⟨w.heap.size,1,none⟩) (Nat.le_refl _) _))
 ·rw [if_pos k1] at hE
  have hfew:=lnE_few k1; have hmost:=lnL_most b; obtain ⟨l0,Lr,hL⟩:=spl_ne (b.take ((endF b).toNat - 4))
  replace hL : lnL b = l0 :: Lr:=hL
  have hS : rrS b = stV (stR ((lnL b).headD [])):=rfl
  have hLL : rrL b = (lnL b).tail.map hdV:=rfl
  rw [hL] at hE hfew hmost hS hLL
  rw [rrX_cons] at hE
  simp only [List.headD_cons,List.tail_cons] at hS hLL
  rw [hL]
  rw [hL] at hr1
  rw [List.length_cons] at hfew
  have hl0:=hmost l0 (by simp); have lr:=stR_len l0; have ld:=stD_len l0; have lr2:=stR_len (stR l0); have ld2:=stD_len (stR l0); have hlb : l0.length ≤ 1000000:=by omega
  have hC:=fun w => rcut_any (str l0) 32 w (by rw [str_size]; exact hlb)
  rw [bs_str,show l0.takeWhile (· != 32) = stD l0 from rfl,show (l0.dropWhile (· != 32)).drop 1 = stR l0 from rfl] at hC
  generalize (!(l0.dropWhile (· != 32)).isEmpty) = more at hC
  have hFd:=Hj (fun v w h => rfields_any Lr v w h (fun l hl => by have:=hmost l (by simp [hl]); omega) (by omega))
  unfold FdR at hFd
  obtain ⟨Ax,cx,ex,hc1,-,r1⟩:=id hr1; cases ex
  obtain ⟨b1,off1,rfl,hl1,x1⟩:=r1 (by simp)
  have d1 : w1.cell? ⟨b1,off1 + 0,none⟩ = some (.string (str l0)):=x1 0 _ rfl
  rw [Nat.add_zero] at d1
  clear x1 r1; rw [List.length_cons] at hc1
  replace k1:=Hj k1; replace hmost:=Hj hmost; have hSt:=fun w => rstatus_any (str (stR l0)) w (by rw [str_size]; omega)
  simp only [bs_str] at hSt
  have hv : ((str (stD l0)).toList == [72,84,84,80,47,49,46,49]) = decide (stD l0 = verB):=by rw [lit_beq,bs_str]; rfl
  have hstA : stA (stR l0) = if stB (stR l0) = true then stV (stR l0) else 0:=rfl
  replace hC:=Hj hC; replace hr1:=Hj hr1; generalize str (stD l0) = sd at *; generalize str (stR l0) = sr at *; go_wp2_with fail
  refine (hC.out _).mono ?_
  rintro e w2 ⟨rfl,n2,rfl⟩
  have hK2:=Hj (hK1.out.drewN n2); have hB2:=Hj (below_drewN hB1.out n2); clear d1; by_cases k2 : stD l0 = verB
  ·rw [decide_eq_true k2] at hv
   rw [if_pos k2] at hE
   replace k2:=Hj k2; cases k3 : stB (stR l0) with
   | false =>
    rw [if_pos k3] at hE
    have hR:=Hj (DrR.bad (w:=w) hE (by decide)); rw [hstA,k3] at hSt
    simp only [Bool.false_eq_true,if_false] at hSt
    replace hSt:=Hj hSt; replace hE:=Hj hE; replace k3:=Hj k3; go_wp2_with fail
    refine (hSt.out _).mono ?_
    rintro e w3 ⟨rfl,rfl⟩
    have f0:=hK2.out.cell 0; have f1:=hK2.out.cell 1; have g0:=hK2.out.frozen 0; have g1:=hK2.out.frozen 1; go_wp2; exact ret_blk3 rfl rfl rfl (hK2.out.two (.int .i64 0) (.slice none 0 0)) Tryz.underlying62 rfl (by kernel_rfl) (hR.out _ ((hB2.out.setCell (p:=⟨w.heap.size,0,none⟩) (Nat.le_refl _) _).setCell (p:=⟨w.heap.size,1,none⟩) (Nat.le_refl _) _))
   | true =>
    rw [if_neg (by rw [k3]; decide)] at hE
    have hge : 100 ≤ stV (stR l0):=by
     unfold stB at k3
     simp only [Bool.and_eq_true,decide_eq_true_eq] at k3
     unfold stV; omega
    rw [hstA,if_pos k3] at hSt
    have q3 : (stV (stR l0) == 0) = false:=beq_false_of_ne (by omega)
    replace hSt:=Hj hSt; replace k3:=Hj k3; replace hge:=Hj hge; replace hS:=Hj hS; replace hLL:=Hj hLL; go_wp2_with fail
    refine (hSt.out _).mono ?_
    rintro e w3 ⟨rfl,rfl⟩
    by_cases hcp : c1 = 1
    ·subst hcp
     obtain rfl : Lr = []:=by cases Lr with | nil => rfl | cons a r => simp at hc1
     have hr4:=Hj (rd_none0 (w1.drewN n2) ⟨b1,off1,none⟩); have hEh:=Hj hE; clear hE; go_wp2_with fail
     refine (hFd.out _ _ hr4.out).mono ?_
     rintro e w4 ⟨h4,hb4⟩
     have hb4' : Below w1.heap.size w1 w4:=⟨hb4.os,hb4.tape,hb4.output,hb4.size,hb4.block⟩
     have hK4:=Hj (hK1.out.below hb4'); have hB4:=Hj (Below.next hB1.out hB1.out.size hb4'); clear hb4 hb4'; have hE:=hEh.out; clear hEh; rcases h4 with ⟨k4,rfl⟩ | ⟨k4,o4,rfl,ho4⟩
     ·exact absurd rfl k4
     ·rw [k4] at hE
      replace hE:=Hj hE; replace k4:=Hj k4; go_wp2_with fail
      refine (hSt.out _).mono ?_
      rintro e w5 ⟨rfl,rfl⟩
      rw [List.length_map] at ho4
      obtain ⟨A5,c5,rfl,-,-,-⟩:=Rd.own ho4
      have hlt5 : w.heap.size < (w1.drewN n2).heap.size:=hK1.out.lt
      have ho5:=own_far (own_far ho4 (p:=⟨w.heap.size,0,none⟩) hlt5 (.int .i64 (stV (stR l0)))) (p:=⟨w.heap.size,1,none⟩) hlt5 (.slice A5 ([] : List (List UInt8)).length c5); have hw:=DrR.good (w:=w) hE.out (o:=.slice A5 ([] : List (List UInt8)).length c5) (by rw [hLL.out,List.length_map]; exact ho5.base (Nat.le_of_lt hlt5)) ((hB4.out.setCell (p:=⟨w.heap.size,0,none⟩) (Nat.le_refl _) (.int .i64 (stV (stR l0)))).setCell (p:=⟨w.heap.size,1,none⟩) (Nat.le_refl _) (.slice A5 ([] : List (List UInt8)).length c5))
      rw [hS.out] at hw
      replace hw:=Hj hw; clear ho4 ho5 hlt5; generalize stV (stR l0) = sv at *; have f0:=hK4.out.cell 0; have f1:=hK4.out.cell 1; have g0:=hK4.out.frozen 0; have g1:=hK4.out.frozen 1; go_wp2; exact ret_blk3 rfl rfl rfl (hK4.out.two (.int .i64 sv) (.slice A5 ([] : List (List UInt8)).length c5)) Tryz.underlying62 rfl (by kernel_rfl) hw.out
    ·have hr3:=rd_tail hr1.out
     have hc2 : Lr.length + 1 ≤ c1:=hc1
     obtain ⟨c,rfl⟩ : ∃ c,c1 = c + 2:=⟨c1 - 2,by omega⟩
     have hr4:=Hj (hr3.drewN (n2)); have hEh:=Hj hE; clear hE; go_wp2_with fail
     refine (hFd.out _ _ hr4.out).mono ?_
     rintro e w4 ⟨h4,hb4⟩
     have hb4' : Below w1.heap.size w1 w4:=⟨hb4.os,hb4.tape,hb4.output,hb4.size,hb4.block⟩
     have hK4:=Hj (hK1.out.below hb4'); have hB4:=Hj (Below.next hB1.out hB1.out.size hb4'); clear hb4 hb4'; have hE:=hEh.out; clear hEh; rcases h4 with ⟨k4,rfl⟩ | ⟨k4,o4,rfl,ho4⟩
     ·have hR:=Hj (DrR.bad (w:=w) hE k4)
      have q4 : (hdsE Lr != 0) = true:=by simpa using k4
      replace hE:=Hj hE; replace k4:=Hj k4; generalize hdsE Lr = he at *; have f0:=hK4.out.cell 0; have f1:=hK4.out.cell 1; have g0:=hK4.out.frozen 0; have g1:=hK4.out.frozen 1; go_wp2; exact ret_blk3 rfl rfl rfl (hK4.out.two (.int .i64 0) (.slice none 0 0)) Tryz.underlying62 rfl (by kernel_rfl) (hR.out _ ((hB4.out.setCell (p:=⟨w.heap.size,0,none⟩) (Nat.le_refl _) _).setCell (p:=⟨w.heap.size,1,none⟩) (Nat.le_refl _) _))
     ·rw [k4] at hE
      replace hE:=Hj hE; replace k4:=Hj k4; go_wp2_with fail
      refine (hSt.out _).mono ?_
      rintro e w5 ⟨rfl,rfl⟩
      rw [List.length_map] at ho4
      obtain ⟨A5,c5,rfl,-,-,-⟩:=Rd.own ho4
      have hlt5 : w.heap.size < (w1.drewN n2).heap.size:=hK1.out.lt
      have ho5:=own_far (own_far ho4 (p:=⟨w.heap.size,0,none⟩) hlt5 (.int .i64 (stV (stR l0)))) (p:=⟨w.heap.size,1,none⟩) hlt5 (.slice A5 Lr.length c5); have hw:=DrR.good (w:=w) hE.out (o:=.slice A5 Lr.length c5) (by rw [hLL.out,List.length_map]; exact ho5.base (Nat.le_of_lt hlt5)) ((hB4.out.setCell (p:=⟨w.heap.size,0,none⟩) (Nat.le_refl _) (.int .i64 (stV (stR l0)))).setCell (p:=⟨w.heap.size,1,none⟩) (Nat.le_refl _) (.slice A5 Lr.length c5))
      rw [hS.out] at hw
      replace hw:=Hj hw; clear ho4 ho5 hlt5; generalize stV (stR l0) = sv at *; have f0:=hK4.out.cell 0; have f1:=hK4.out.cell 1; have g0:=hK4.out.frozen 0; have g1:=hK4.out.frozen 1; go_wp2; exact ret_blk3 rfl rfl rfl (hK4.out.two (.int .i64 sv) (.slice A5 Lr.length c5)) Tryz.underlying62 rfl (by kernel_rfl) hw.out
  ·rw [decide_eq_false k2] at hv
   rw [if_neg k2] at hE
   have hR:=Hj (DrR.bad (w:=w) hE (by decide)); replace hE:=Hj hE; replace k2:=Hj k2; clear hSt hstA; have f0:=hK2.out.cell 0; have f1:=hK2.out.cell 1; have g0:=hK2.out.frozen 0; have g1:=hK2.out.frozen 1; go_wp2; exact ret_blk3 rfl rfl rfl (hK2.out.two (.int .i64 0) (.slice none 0 0)) Tryz.underlying62 rfl (by kernel_rfl) (hR.out _ ((hB2.out.setCell (p:=⟨w.heap.size,0,none⟩) (Nat.le_refl _) _).setCell (p:=⟨w.heap.size,1,none⟩) (Nat.le_refl _) _))
set_option maxRecDepth 100000 in
set_option maxHeartbeats 32000000 in
theorem rreadreq_any (s : ByteArray) (w : World) (hs : s.size ≤ 1000000) :
  Calls Tryz.prog 32 #[.string s] w (DqR w (bs s)):=by
 have hSp:=fun w => rsplit_any s w hs
 unfold DsR at hSp
 have hsz:=bs_length s; have hK0:=Hj (Blk.new w 71 #[.string ByteArray.empty,.string ByteArray.empty,.slice none 0 0]); have hB0:=Hj ((Below.refl w.heap.size w).alloc (Nat.le_refl _) (.cells #[.string ByteArray.empty,.string ByteArray.empty,.slice none 0 0] 71)); generalize bs s = b at hSp hsz ⊢
 replace hSp:=Hj hSp; have hE : rqE b = if lnE b = 0 then rqX (lnL b) else lnE b:=rfl
 go_enter Tryz.func32,Tryz.ntmps32
 go_wp2_with fail
 refine (hSp.out _).mono ?_
 rintro e w1 ⟨h1,hb1⟩
 have hK1:=Hj (hK0.out.below hb1); have hB1:=Hj (Below.next hB0.out hB0.out.size hb1); clear hb1; rcases h1 with ⟨k1,rfl⟩ | ⟨k1,A1,c1,rfl,hr1⟩
 ·rw [if_neg k1] at hE
  have hR:=Hj (DqR.bad (w:=w) hE k1); have q1 : (lnE b != 0) = true:=by simpa using k1
  replace hE:=Hj hE; replace k1:=Hj k1; generalize lnE b = n at *; have f0:=hK1.out.cell 0; have f1:=hK1.out.cell 1; have f2:=hK1.out.cell 2; have g0:=hK1.out.frozen 0; have g1:=hK1.out.frozen 1; have g2:=hK1.out.frozen 2; go_wp2; exact ret_blk3 rfl rfl rfl (hK1.out.three (.string ByteArray.empty) (.string ByteArray.empty) (.slice none 0 0)) Tryz.underlying71 rfl (by kernel_rfl) (hR.out _ (((hB1.out.setCell (p:=⟨w.heap.size,0,none⟩) (Nat.le_refl _) _).setCell (p:=⟨w.heap.size,1,none⟩) (Nat.le_refl _) _).setCell (p:=⟨w.heap.size,2,none⟩) (Nat.le_refl _) _))
 ·rw [if_pos k1] at hE
  have hfew:=lnE_few k1; have hmost:=lnL_most b; obtain ⟨l0,Lr,hL⟩:=spl_ne (b.take ((endF b).toNat - 4))
  replace hL : lnL b = l0 :: Lr:=hL
  have hSM : rqM b = rlM ((lnL b).headD []):=rfl
  have hST : rqT b = rlT ((lnL b).headD []):=rfl
  have hLL : rqL b = rqF ((lnL b).tail.map hdV):=rfl
  rw [hL] at hE hfew hmost hSM hST hLL
  rw [rqX_cons] at hE
  simp only [List.headD_cons,List.tail_cons] at hSM hST hLL
  rw [hL]
  rw [hL] at hr1
  rw [List.length_cons] at hfew
  have hl0:=hmost l0 (by simp); have lr:=stR_len l0; have ld:=stD_len l0; have lr2:=stR_len (stR l0); have ld2:=stD_len (stR l0); have hlb : l0.length ≤ 1000000:=by omega
  have hC:=fun w => rcut_any (str l0) 32 w (by rw [str_size]; exact hlb)
  rw [bs_str,show l0.takeWhile (· != 32) = stD l0 from rfl,show (l0.dropWhile (· != 32)).drop 1 = stR l0 from rfl] at hC
  generalize (!(l0.dropWhile (· != 32)).isEmpty) = more at hC
  have hFd:=Hj (fun v w h => rfields_any Lr v w h (fun l hl => by have:=hmost l (by simp [hl]); omega) (by omega))
  unfold FdR at hFd
  obtain ⟨Ax,cx,ex,hc1,-,r1⟩:=id hr1; cases ex
  obtain ⟨b1,off1,rfl,hl1,x1⟩:=r1 (by simp)
  have d1 : w1.cell? ⟨b1,off1 + 0,none⟩ = some (.string (str l0)):=x1 0 _ rfl
  rw [Nat.add_zero] at d1
  clear x1 r1; rw [List.length_cons] at hc1
  replace k1:=Hj k1; replace hmost:=Hj hmost; have hC2:=fun w => rcut_any (str (stR l0)) 32 w (by rw [str_size]; omega)
  simp only [bs_str] at hC2
  rw [show (stR l0).takeWhile (· != 32) = rlT l0 from rfl,show ((stR l0).dropWhile (· != 32)).drop 1 = rlV l0 from rfl] at hC2
  generalize (!((stR l0).dropWhile (· != 32)).isEmpty) = more2 at hC2
  rw [show stD l0 = rlM l0 from rfl] at hC
  have hMe:=fun w => rmethod_any (str (rlM l0)) w (by rw [str_size]; unfold rlM; omega)
  have hTa:=fun w => rtarget_any (str (rlM l0)) (str (rlT l0)) w (by rw [str_size]; unfold rlT; omega)
  simp only [bs_str] at hMe hTa
  have hHo:=Hj (fun v w h => rhosted_any (Lr.map hdV) v w (fun p hp => by
   obtain ⟨l,hl,rfl⟩:=List.mem_map.1 hp
   have h1:=hdV_len l; have h2:=hmost.out l (by simp [hl]); omega) (by rw [List.length_map]; omega) h)
  have hv : ((str (rlV l0)).toList == [72,84,84,80,47,49,46,49]) = decide (rlV l0 = verB):=by rw [lit_beq,bs_str]; rfl
  have hlm : (rqF (Lr.map hdV)).length = Lr.length:=by unfold rqF; rw [List.length_map,List.length_map]
  have hgood:=Hj (fun (h : rqE b = 0) (w' : World) (o : Value) (ho : Own w' w.heap.size 170 2 o Lr.length (prs (rqF (Lr.map hdV)))) (hb : Below w.heap.size w w') => show DqR w b (.returned (.tuple #[.agg #[.string (str (rlM l0)),.string (str (rlT l0)),o],.int .i64 (endF b),.int .i64 0])) w' by
   have:=DqR.good (b:=b) (o:=o) h (by rw [hLL,hlm]; exact ho) hb
   rw [hSM,hST] at this; exact this)
  replace hLL:=Hj hLL; replace hSM:=Hj hSM; replace hST:=Hj hST; replace hlm:=Hj hlm; replace hC:=Hj hC; replace hC2:=Hj hC2; replace hr1:=Hj hr1; generalize str (rlV l0) = sv at *; generalize str (rlM l0) = sm at *; generalize str (rlT l0) = stg at *; generalize str (stR l0) = sr at *; go_wp2_with fail
  refine (hC.out _).mono ?_
  rintro e w2 ⟨rfl,n2,rfl⟩
  clear d1; go_wp2_with fail
  refine (hC2.out _).mono ?_
  rintro e w3 ⟨rfl,n3,rfl⟩
  have hK2:=Hj (hK1.out.drewN (n2 + n3)); have hB2:=Hj (below_drewN hB1.out (n2 + n3)); cases k2 : mthB (rlM l0) with
  | false =>
   rw [if_pos k2] at hE
   have hR:=Hj (DqR.bad (w:=w) hE (by decide)); rw [k2] at hMe
   replace hMe:=Hj hMe; replace hTa:=Hj hTa; replace hE:=Hj hE; replace k2:=Hj k2; go_wp2_with fail
   refine (hMe.out _).mono ?_
   rintro e w4 ⟨rfl,rfl⟩
   have f0:=hK2.out.cell 0; have f1:=hK2.out.cell 1; have f2:=hK2.out.cell 2; have g0:=hK2.out.frozen 0; have g1:=hK2.out.frozen 1; have g2:=hK2.out.frozen 2; go_wp2; exact ret_blk3 rfl rfl rfl (hK2.out.three (.string ByteArray.empty) (.string ByteArray.empty) (.slice none 0 0)) Tryz.underlying71 rfl (by kernel_rfl) (hR.out _ (((hB2.out.setCell (p:=⟨w.heap.size,0,none⟩) (Nat.le_refl _) _).setCell (p:=⟨w.heap.size,1,none⟩) (Nat.le_refl _) _).setCell (p:=⟨w.heap.size,2,none⟩) (Nat.le_refl _) _))
  | true =>
   rw [if_neg (by rw [k2]; decide)] at hE
   rw [k2] at hMe
   replace hMe:=Hj hMe; replace k2:=Hj k2; go_wp2_with fail
   refine (hMe.out _).mono ?_
   rintro e w4 ⟨rfl,rfl⟩
   cases k3 : tgtB (rlM l0) (rlT l0) with
   | false =>
    rw [if_pos k3] at hE
    have hR:=Hj (DqR.bad (w:=w) hE (by decide)); rw [k3] at hTa
    replace hTa:=Hj hTa; replace hE:=Hj hE; replace k3:=Hj k3; go_wp2_with fail
    refine (hTa.out _).mono ?_
    rintro e w4 ⟨rfl,rfl⟩
    have f0:=hK2.out.cell 0; have f1:=hK2.out.cell 1; have f2:=hK2.out.cell 2; have g0:=hK2.out.frozen 0; have g1:=hK2.out.frozen 1; have g2:=hK2.out.frozen 2; go_wp2; exact ret_blk3 rfl rfl rfl (hK2.out.three (.string ByteArray.empty) (.string ByteArray.empty) (.slice none 0 0)) Tryz.underlying71 rfl (by kernel_rfl) (hR.out _ (((hB2.out.setCell (p:=⟨w.heap.size,0,none⟩) (Nat.le_refl _) _).setCell (p:=⟨w.heap.size,1,none⟩) (Nat.le_refl _) _).setCell (p:=⟨w.heap.size,2,none⟩) (Nat.le_refl _) _))
   | true =>
    rw [if_neg (by rw [k3]; decide)] at hE
    rw [k3] at hTa
    replace hTa:=Hj hTa; replace k3:=Hj k3; go_wp2_with fail
    refine (hTa.out _).mono ?_
    rintro e w4 ⟨rfl,rfl⟩
    by_cases k4 : rlV l0 = verB
    ·rw [decide_eq_true k4] at hv
     rw [if_pos k4] at hE
     replace k4:=Hj k4; by_cases hcp : c1 = 1
     ·subst hcp
      obtain rfl : Lr = []:=by cases Lr with | nil => rfl | cons a r => simp at hc1
      have hr4:=Hj (rd_none0 (w1.drewN (n2 + n3)) ⟨b1,off1,none⟩); have hEh:=Hj hE; clear hE; go_wp2_with fail
      refine (hFd.out _ _ hr4.out).mono ?_
      rintro e w4 ⟨h4,hb4⟩
      have hb4' : Below w1.heap.size w1 w4:=⟨hb4.os,hb4.tape,hb4.output,hb4.size,hb4.block⟩
      have hK4:=Hj (hK1.out.below hb4'); have hB4:=Hj (Below.next hB1.out hB1.out.size hb4'); clear hb4 hb4'; have hE:=hEh.out; clear hEh; rcases h4 with ⟨k4,rfl⟩ | ⟨k4,o4,rfl,ho4⟩
      ·exact absurd rfl k4
      ·rw [if_pos k4] at hE
       replace k4:=Hj k4; have hrd4:=Rd.own ho4; clear ho4; cases k7 : hsX (([] : List (List UInt8)).map hdV) with
       | none =>
        rw [if_pos k7] at hE
        have hR:=Hj (DqR.bad (w:=w) hE (by decide)); replace hE:=Hj hE; go_wp2_with fail
        refine (hHo.out _ _ hrd4).mono ?_
        rintro e w5 ⟨o5,rfl,-,hb5⟩
        rw [k7]
        replace k7:=Hj k7; have hK5:=Hj (hK4.out.below hb5); have hB5:=Hj (Below.next hB4.out hB4.out.size hb5); clear hb5; replace hrd4:=Hj hrd4; rw [show (none : Option (List UInt8)).isSome = false from rfl]
        have f0:=hK5.out.cell 0; have f1:=hK5.out.cell 1; have f2:=hK5.out.cell 2; have g0:=hK5.out.frozen 0; have g1:=hK5.out.frozen 1; have g2:=hK5.out.frozen 2; go_wp2; exact ret_blk3 rfl rfl rfl (hK5.out.three (.string ByteArray.empty) (.string ByteArray.empty) (.slice none 0 0)) Tryz.underlying71 rfl (by kernel_rfl) (hR.out _ (((hB5.out.setCell (p:=⟨w.heap.size,0,none⟩) (Nat.le_refl _) _).setCell (p:=⟨w.heap.size,1,none⟩) (Nat.le_refl _) _).setCell (p:=⟨w.heap.size,2,none⟩) (Nat.le_refl _) _))
       | some h =>
        rw [if_neg (by rw [k7]; exact fun h => by cases h)] at hE
        go_wp2_with fail
        refine (hHo.out _ _ hrd4).mono ?_
        rintro e w5 ⟨o5,rfl,ho5,hb5⟩
        rw [k7] at ho5 ⊢
        have ho5:=ho5 rfl; rw [repR_rqF k7,hlm.out] at ho5
        replace k7:=Hj k7; have hlt4 : w.heap.size < w4.heap.size:=hK4.out.lt
        have hK5:=Hj (hK4.out.below hb5); have hB5:=Hj (Below.next hB4.out hB4.out.size hb5); clear hb5; replace hrd4:=Hj hrd4; rw [show (some h : Option (List UInt8)).isSome = true from rfl]
        obtain ⟨A6,c6,rfl,-,-,-⟩:=Rd.own ho5
        have ho7:=own_far (own_far (own_far ho5 (p:=⟨w.heap.size,0,none⟩) hlt4 (.string sm)) (p:=⟨w.heap.size,1,none⟩) hlt4 (.string stg)) (p:=⟨w.heap.size,2,none⟩) hlt4 (.slice A6 ([] : List (List UInt8)).length c6); have hw:=hgood.out hE _ _ (ho7.base (Nat.le_of_lt hlt4)) (((hB5.out.setCell (p:=⟨w.heap.size,0,none⟩) (Nat.le_refl _) (.string sm)).setCell (p:=⟨w.heap.size,1,none⟩) (Nat.le_refl _) (.string stg)).setCell (p:=⟨w.heap.size,2,none⟩) (Nat.le_refl _) (.slice A6 ([] : List (List UInt8)).length c6)); replace hw:=Hj hw; replace hE:=Hj hE; clear ho5 ho7 hlt4; have f0:=hK5.out.cell 0; have f1:=hK5.out.cell 1; have f2:=hK5.out.cell 2; have g0:=hK5.out.frozen 0; have g1:=hK5.out.frozen 1; have g2:=hK5.out.frozen 2; go_wp2; exact ret_blk3 rfl rfl rfl (hK5.out.three (.string sm) (.string stg) (.slice A6 ([] : List (List UInt8)).length c6)) Tryz.underlying71 rfl (by kernel_rfl) hw.out
     ·have hr3:=rd_tail hr1.out
      have hc2 : Lr.length + 1 ≤ c1:=hc1
      obtain ⟨c,rfl⟩ : ∃ c,c1 = c + 2:=⟨c1 - 2,by omega⟩
      have hr4:=Hj (hr3.drewN (n2 + n3)); have hEh:=Hj hE; clear hE; go_wp2_with fail
      refine (hFd.out _ _ hr4.out).mono ?_
      rintro e w4 ⟨h4,hb4⟩
      have hb4' : Below w1.heap.size w1 w4:=⟨hb4.os,hb4.tape,hb4.output,hb4.size,hb4.block⟩
      have hK4:=Hj (hK1.out.below hb4'); have hB4:=Hj (Below.next hB1.out hB1.out.size hb4'); clear hb4 hb4'; have hE:=hEh.out; clear hEh; rcases h4 with ⟨k4,rfl⟩ | ⟨k4,o4,rfl,ho4⟩
      ·rw [if_neg k4] at hE
       have hR:=Hj (DqR.bad (w:=w) hE k4); have q4 : (hdsE Lr != 0) = true:=by simpa using k4
       replace hE:=Hj hE; replace k4:=Hj k4; generalize hdsE Lr = he at *; have f0:=hK4.out.cell 0; have f1:=hK4.out.cell 1; have f2:=hK4.out.cell 2; have g0:=hK4.out.frozen 0; have g1:=hK4.out.frozen 1; have g2:=hK4.out.frozen 2; go_wp2; exact ret_blk3 rfl rfl rfl (hK4.out.three (.string ByteArray.empty) (.string ByteArray.empty) (.slice none 0 0)) Tryz.underlying71 rfl (by kernel_rfl) (hR.out _ (((hB4.out.setCell (p:=⟨w.heap.size,0,none⟩) (Nat.le_refl _) _).setCell (p:=⟨w.heap.size,1,none⟩) (Nat.le_refl _) _).setCell (p:=⟨w.heap.size,2,none⟩) (Nat.le_refl _) _))
      ·rw [if_pos k4] at hE
       replace k4:=Hj k4; have hrd4:=Rd.own ho4; clear ho4; cases k7 : hsX (Lr.map hdV) with
       | none =>
        rw [if_pos k7] at hE
        have hR:=Hj (DqR.bad (w:=w) hE (by decide)); replace hE:=Hj hE; go_wp2_with fail
        refine (hHo.out _ _ hrd4).mono ?_
        rintro e w5 ⟨o5,rfl,-,hb5⟩
        rw [k7]
        replace k7:=Hj k7; have hK5:=Hj (hK4.out.below hb5); have hB5:=Hj (Below.next hB4.out hB4.out.size hb5); clear hb5; replace hrd4:=Hj hrd4; rw [show (none : Option (List UInt8)).isSome = false from rfl]
        have f0:=hK5.out.cell 0; have f1:=hK5.out.cell 1; have f2:=hK5.out.cell 2; have g0:=hK5.out.frozen 0; have g1:=hK5.out.frozen 1; have g2:=hK5.out.frozen 2; go_wp2; exact ret_blk3 rfl rfl rfl (hK5.out.three (.string ByteArray.empty) (.string ByteArray.empty) (.slice none 0 0)) Tryz.underlying71 rfl (by kernel_rfl) (hR.out _ (((hB5.out.setCell (p:=⟨w.heap.size,0,none⟩) (Nat.le_refl _) _).setCell (p:=⟨w.heap.size,1,none⟩) (Nat.le_refl _) _).setCell (p:=⟨w.heap.size,2,none⟩) (Nat.le_refl _) _))
       | some h =>
        rw [if_neg (by rw [k7]; exact fun h => by cases h)] at hE
        go_wp2_with fail
        refine (hHo.out _ _ hrd4).mono ?_
        rintro e w5 ⟨o5,rfl,ho5,hb5⟩
        rw [k7] at ho5 ⊢
        have ho5:=ho5 rfl; rw [repR_rqF k7,hlm.out] at ho5
        replace k7:=Hj k7; have hlt4 : w.heap.size < w4.heap.size:=hK4.out.lt
        have hK5:=Hj (hK4.out.below hb5); have hB5:=Hj (Below.next hB4.out hB4.out.size hb5); clear hb5; replace hrd4:=Hj hrd4; rw [show (some h : Option (List UInt8)).isSome = true from rfl]
        obtain ⟨A6,c6,rfl,-,-,-⟩:=Rd.own ho5
        have ho7:=own_far (own_far (own_far ho5 (p:=⟨w.heap.size,0,none⟩) hlt4 (.string sm)) (p:=⟨w.heap.size,1,none⟩) hlt4 (.string stg)) (p:=⟨w.heap.size,2,none⟩) hlt4 (.slice A6 Lr.length c6); have hw:=hgood.out hE _ _ (ho7.base (Nat.le_of_lt hlt4)) (((hB5.out.setCell (p:=⟨w.heap.size,0,none⟩) (Nat.le_refl _) (.string sm)).setCell (p:=⟨w.heap.size,1,none⟩) (Nat.le_refl _) (.string stg)).setCell (p:=⟨w.heap.size,2,none⟩) (Nat.le_refl _) (.slice A6 Lr.length c6)); replace hw:=Hj hw; replace hE:=Hj hE; clear ho5 ho7 hlt4; have f0:=hK5.out.cell 0; have f1:=hK5.out.cell 1; have f2:=hK5.out.cell 2; have g0:=hK5.out.frozen 0; have g1:=hK5.out.frozen 1; have g2:=hK5.out.frozen 2; go_wp2; exact ret_blk3 rfl rfl rfl (hK5.out.three (.string sm) (.string stg) (.slice A6 Lr.length c6)) Tryz.underlying71 rfl (by kernel_rfl) hw.out
    ·rw [decide_eq_false k4] at hv
     rw [if_neg k4] at hE
     have hR:=Hj (DqR.bad (w:=w) hE (by decide)); replace hE:=Hj hE; replace k4:=Hj k4; have f0:=hK2.out.cell 0; have f1:=hK2.out.cell 1; have f2:=hK2.out.cell 2; have g0:=hK2.out.frozen 0; have g1:=hK2.out.frozen 1; have g2:=hK2.out.frozen 2; go_wp2; exact ret_blk3 rfl rfl rfl (hK2.out.three (.string ByteArray.empty) (.string ByteArray.empty) (.slice none 0 0)) Tryz.underlying71 rfl (by kernel_rfl) (hR.out _ (((hB2.out.setCell (p:=⟨w.heap.size,0,none⟩) (Nat.le_refl _) _).setCell (p:=⟨w.heap.size,1,none⟩) (Nat.le_refl _) _).setCell (p:=⟨w.heap.size,2,none⟩) (Nat.le_refl _) _))
end Go.Proofs.YtibcbaghgpemfaaGreatDoor
