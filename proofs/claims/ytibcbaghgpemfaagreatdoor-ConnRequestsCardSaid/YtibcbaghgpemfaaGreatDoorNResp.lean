import Derived.Test.YtibcbaghgpemfaaGreatDoorNWrite
namespace Go.Proofs.YtibcbaghgpemfaaGreatDoor
open Go.RowKit Syn Hd Fr Ck
set_option maxRecDepth 100000 in
set_option maxHeartbeats 4000000 in
theorem newresp_any (ms : List (List UInt8)) (A : Option Addr) (cap : Nat) (w : World) (hR : Rd w 1 (.slice A ms.length cap) ms.length (strs ms)) (hm : ms.length ≤ 1000) :
  Calls Tryz.prog 36 #[.slice A ms.length cap] w fun e w' => ∃ g F,e = .returned (.pointer (some ⟨g,0,none⟩)) ∧ Cn.At w' g F (Cn.new true ms) ∧ (∀ k,F k → w.heap.size ≤ k) ∧ Below w.heap.size w w':=by
 have hmade:=Hj (World.ownsRow_made (base:=w.heap.size) (size:=1) (e:=9) w #[] 0 (Nat.le_refl _) (Nat.zero_le _) rfl); have hRA:=Hj (hR.below ((Below.refl w.heap.size w).alloc (Nat.le_refl _) (.cells #[] 9))); have h1c : ∀ u ∈ strs ms,u.oneCell' = true:=fun u hu => by obtain ⟨x,-,rfl⟩:=List.mem_map.1 hu; rfl
 have hnA:=Hj ((Kp.refl (fun _ => False) w).alloc (.cells #[] 9)); replace h1c:=Hj h1c; replace hR:=Hj hR; go_enter Tryz.func36,Tryz.ntmps36
 go_wp2_with (at_builtin; go_loud (refine step_pushR (v:=Value.slice (some ⟨w.heap.size,0,none⟩) 0 0) (n:=0) (m:=ms.length) (xs:=[]) (news:=strs ms) (c:=cap) (A:=A) (B:=w.heap.size) 22 9 (.string ⟨#[]⟩) 1 16 _ _ rfl rfl Tryz.underlying22 infoStr rfl (by decide) (by decide) rfl hmade.out rfl hRA.out h1c.out (by omega) (by rw [alloc_size']; omega) ?_); intro v5 w5 ho5 hg5 hat5; rw [Nat.zero_add,List.nil_append] at ho5; have hn5:=Hj (hnA.out.grown hg5 (fun k e hlt => by cases e; exact absurd hlt (Nat.lt_irrefl _))); obtain ⟨A5,c5,rfl,-,-,-⟩:=id (Rd.own ho5); replace ho5:=Hj ho5; clear hg5 hat5)
 go_ret; have hC : ∀ cs,Blk (w5.alloc (.cells cs 107)) w5.heap.size 107 cs:=fun cs => Blk.new _ _ _
 have hsz:=hn5.out.size; have hlt5 : ∀ k,(Value.slice A5 ms.length c5).ownBlock = some k → w.heap.size ≤ k ∧ k < w5.heap.size:=fun k hk => World.ownsRow.lt ho5.out k hk
 refine ⟨w5.heap.size,fun k => k = w5.heap.size ∨ (Value.slice A5 ms.length c5).ownBlock = some k,rfl,⟨.inl rfl,fun k h => ?_,.slice A5 ms.length c5,.slice none 0 0,0,0,.pointer none,hC _,fun _ => ?_⟩,fun k h => ?_,?_⟩
 ·rw [alloc_size']
  rcases h with rfl | h
  ·omega
  ·have:=(hlt5 k h).2; omega
 ·refine ⟨Rd.own (ho5.out.alloc _),fun k hk => ⟨.inr hk,fun e => by have:=(hlt5 k hk).2; omega⟩,hm,⟨none,0,rfl,fun _ => rfl,fun h => (by cases h)⟩,Rd.nil _ 1,On.nil _,(show (0 : Nat) ≤ 64 by decide),fun h => (by cases h),fun h => (by cases h)⟩
 ·rcases h with rfl | h
  ·exact hsz
  ·exact (hlt5 k h).1
 ·exact (hn5.out.toBelow (Nat.le_refl _) (fun _ h => h.elim)).alloc hsz _
end Go.Proofs.YtibcbaghgpemfaaGreatDoor
