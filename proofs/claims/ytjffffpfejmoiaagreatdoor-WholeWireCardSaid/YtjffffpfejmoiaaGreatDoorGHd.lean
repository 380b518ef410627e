import Derived.Test.YtjffffpfejmoiaaGreatDoorGHo
import Derived.Test.YtjffffpfejmoiaaGreatDoorGByt
import Derived.Test.YtjffffpfejmoiaaGreatDoorShelfIdx
import Derived.Lib.SlFresh
import Derived.Lib.SlBytesConst
import Derived.Test.YtjffffpfejmoiaaGreatDoorShelfSplit
import Derived.Test.YtjffffpfejmoiaaGreatDoorGWr
import Derived.Test.YtjffffpfejmoiaaGreatDoorGLow
import Derived.Test.YtjffffpfejmoiaaGreatDoorShelfAny
import Derived.Lib.OthersKept
import Derived.Laws.Runes
import Derived.Shelf.Small.Utf8
import Derived.Shelf.Strings.Runes
import Derived.Deep.QuietTactic
import Derived.BigQuiet
import Derived.WalkMore
import Derived.Deep.DeepCutAuto
namespace Go.Proofs.YtjffffpfejmoiaaGreatDoor
open Go.RowKit Syn Hd
namespace Hd
def strR : Bool → List UInt8 → Bool
 | cr,[] => !cr
 | cr,c :: r => if c.toNat = 0 then false else if c.toNat = 10 then cr && strR false r else if cr then false else strR (decide (c.toNat = 13)) r
def strB (l : List UInt8) : Bool:=strR false l
theorem strR_lf {cr : Bool} {c : UInt8} {r : List UInt8} (h : c.toNat = 10) : strR cr (c :: r) = (cr && strR false r):=by
 rw [strR,if_neg (by omega),if_pos h]
theorem strR_no {c : UInt8} {r : List UInt8} {cr : Bool} (h : c.toNat = 0) : strR cr (c :: r) = false:=by rw [strR,if_pos h]
theorem strR_cr {c : UInt8} {r : List UInt8} (h : c.toNat ≠ 10) : strR true (c :: r) = false:=by
 rw [strR]
 by_cases h0 : c.toNat = 0
 ·rw [if_pos h0]
 ·rw [if_neg h0,if_neg h]; rfl
theorem strR_go {c : UInt8} {r : List UInt8} (h0 : c.toNat ≠ 0) (h : c.toNat ≠ 10) : strR false (c :: r) = strR (decide (c.toNat = 13)) r:=by
 rw [strR,if_neg h0,if_neg h]; rfl
end Hd
set_option maxRecDepth 100000 in
set_option maxHeartbeats 4000000 in
theorem straight_any (s : ByteArray) (w : World) (hs : s.size ≤ 1000000) :
  Calls Tryz.prog 101 #[.string s] w fun e w' => e = .returned (.bool (strB (bs s))) ∧ w' = w:=by
 go_enter Tryz.func101,Tryz.ntmps101
 go_wp2; go_loop [3,6] (fun _ i => ∃ (k : Nat) (cr : Bool),i = .int .i64 (k : Int) ∧ k ≤ s.size ∧ Hid (strB (bs s) = strR cr ((bs s).drop k)) ∧ Hid (cr = true → 0 < k ∧ (bs s)[k - 1]?.map UInt8.toNat = some 13 ∧ (bs s)[k]?.map UInt8.toNat = some 10) ∧ Hid (cr = false → k = 0 ∨ (bs s)[k - 1]?.map UInt8.toNat ≠ some 13)) (fun _ i => s.size - (intOf i).toNat)
 case atStart => exact ⟨0,false,rfl,by omega,Hj rfl,Hj (fun h => by cases h),Hj (fun _ => .inl rfl)⟩
 case round =>
  obtain ⟨k,cr,rfl,hk,hst,hcr,hnc⟩:=hrel
  by_cases hlt : k < s.size
  ·have hd:=drop_at s k hlt
   have hst2:=hst.out; rw [hd] at hst2
   have hbk : (bs s)[k]?.map UInt8.toNat = some s[k].toNat:=by rw [byte_at s k hlt]; rfl
   by_cases c0 : s[k].toNat = 0
   ·have q0 : ((s[k].toNat : Int) == 0) = true:=beq_cast_true c0
    have hf:=Hj (show false = strB (bs s) by rw [hst2,strR_no c0]); replace c0:=Hj c0; clear hst2 hd hbk; go_wp2; go_ret; exact ⟨congrArg (fun b => Ending.returned (.bool b)) hf.out,rfl⟩
   ·have q0 : ((s[k].toNat : Int) == 0) = false:=beq_cast_false c0
    by_cases c13 : s[k].toNat = 13
    ·have q13 : ((s[k].toNat : Int) == 13) = true:=beq_cast_true c13
     have hcf : cr = false:=by
      cases cr with
      | false => rfl
      | true => have:=(hcr.out rfl).2.2; rw [hbk,c13] at this; cases this
     subst hcf; rw [strR_go c0 (by omega),c13] at hst2
     by_cases hend : k + 1 = s.size
     ·have q1 : ((k : Int) + 1 == (s.size : Int)) = true:=by rw [← hend]; exact beq_iff_eq.2 (by omega)
      have hf:=Hj (show false = strB (bs s) by rw [hst2,List.drop_of_length_le (by rw [bs_length]; omega)]; rfl)
      replace c0:=Hj c0; replace c13:=Hj c13; replace hend:=Hj hend; clear hst2 hd hbk; go_wp2; go_ret; exact ⟨congrArg (fun b => Ending.returned (.bool b)) hf.out,rfl⟩
     ·have q1 : ((k : Int) + 1 == (s.size : Int)) = false:=by rw [beq_eq_false_iff_ne]; omega
      have hlt1 : k + 1 < s.size:=by omega
      have hd1:=drop_at s (k + 1) hlt1; rw [hd1] at hst2
      have hbk1 : (bs s)[k + 1]?.map UInt8.toNat = some s[k + 1].toNat:=by rw [byte_at s (k + 1) hlt1]; rfl
      by_cases c10 : s[k + 1].toNat = 10
      ·have q2 : ((s[k + 1].toNat : Int) != 10) = false:=by rw [c10]; rfl
       have hA : Hid (strB (bs s) = strR true ((bs s).drop (k + 1))):=Hj (by rw [hst2,← hd1]; rfl)
       have hB : Hid (0 < k + 1 ∧ (bs s)[k + 1 - 1]?.map UInt8.toNat = some 13 ∧ (bs s)[k + 1]?.map UInt8.toNat = some 10):=Hj ⟨by omega,by rw [Nat.add_sub_cancel,hbk,c13],by rw [hbk1,c10]⟩
       replace c0:=Hj c0; replace c13:=Hj c13; replace c10:=Hj c10; clear hst2 hd hbk hd1 hbk1; go_wp2; go_round
       case rel => exact ⟨k + 1,true,by go_num,by omega,hA,Hj (fun _ => hB.out),Hj (fun h => by cases h)⟩
       case measure => simp [intOf]; omega
      ·have q2 : ((s[k + 1].toNat : Int) != 10) = true:=by rw [bne,show ((s[k + 1].toNat : Int) == 10) = false from beq_cast_false c10]; rfl
       have hf:=Hj (show false = strB (bs s) by rw [hst2,show decide (13 = 13) = true from rfl,strR_cr c10]); replace c0:=Hj c0; replace c13:=Hj c13; replace c10:=Hj c10; clear hst2 hd hbk hd1 hbk1; go_wp2; go_ret; exact ⟨congrArg (fun b => Ending.returned (.bool b)) hf.out,rfl⟩
    ·have q13 : ((s[k].toNat : Int) == 13) = false:=beq_cast_false c13
     by_cases c10 : s[k].toNat = 10
     ·have q10 : ((s[k].toNat : Int) == 10) = true:=beq_cast_true c10
      rw [strR_lf c10] at hst2
      cases cr with
      | true =>
       obtain ⟨h1,h2,-⟩:=hcr.out rfl
       obtain ⟨j,rfl⟩ : ∃ j,k = j + 1:=⟨k - 1,by omega⟩
       have hjs : j < s.size:=by omega
       rw [Nat.add_sub_cancel,byte_at s j hjs] at h2
       have h3 : s[j].toNat = 13:=by simpa using h2
       have q3 : ((s[j].toNat : Int) != 13) = false:=by rw [h3]; rfl
       have hA : Hid (strB (bs s) = strR false ((bs s).drop (j + 1 + 1))):=Hj hst2
       have hB : Hid (j + 1 + 1 = 0 ∨ (bs s)[j + 1 + 1 - 1]?.map UInt8.toNat ≠ some 13):=Hj (.inr (by rw [Nat.add_sub_cancel,hbk,c10]; decide))
       replace c0:=Hj c0; replace c13:=Hj c13; replace c10:=Hj c10; replace h3:=Hj h3; clear hst2 hd hbk h2; go_wp2; go_round
       case rel => exact ⟨j + 1 + 1,false,by go_num,by omega,hA,Hj (fun h => by cases h),Hj (fun _ => hB.out)⟩
       case measure => simp [intOf]; omega
      | false =>
       have hf:=Hj (show false = strB (bs s) by rw [hst2]; rfl)
       rcases hnc.out rfl with h1 | h1
       ·subst h1
        replace c0:=Hj c0; replace c13:=Hj c13; replace c10:=Hj c10; clear hst2 hd hbk; go_wp2; go_ret; exact ⟨congrArg (fun b => Ending.returned (.bool b)) hf.out,rfl⟩
       ·by_cases h2 : k = 0
        ·subst h2
         replace c0:=Hj c0; replace c13:=Hj c13; replace c10:=Hj c10; clear hst2 hd hbk h1; go_wp2; go_ret; exact ⟨congrArg (fun b => Ending.returned (.bool b)) hf.out,rfl⟩
        ·obtain ⟨j,rfl⟩ : ∃ j,k = j + 1:=⟨k - 1,by omega⟩
         have hjs : j < s.size:=by omega
         rw [Nat.add_sub_cancel,byte_at s j hjs] at h1
         have h3 : s[j].toNat ≠ 13:=fun h => h1 (by rw [Option.map_some,h])
         have q3 : ((s[j].toNat : Int) != 13) = true:=by rw [bne,show ((s[j].toNat : Int) == 13) = false from beq_cast_false h3]; rfl
         replace c0:=Hj c0; replace c13:=Hj c13; replace c10:=Hj c10; replace h3:=Hj h3; clear hst2 hd hbk h1; go_wp2; go_ret; exact ⟨congrArg (fun b => Ending.returned (.bool b)) hf.out,rfl⟩
     ·have q10 : ((s[k].toNat : Int) == 10) = false:=beq_cast_false c10
      have hcf : cr = false:=by
       cases cr with
       | false => rfl
       | true => have:=(hcr.out rfl).2.2; rw [hbk] at this; exact absurd (Option.some.inj this) c10
      subst hcf; rw [strR_go c0 c10,decide_eq_false c13] at hst2
      have hB : Hid (k + 1 = 0 ∨ (bs s)[k + 1 - 1]?.map UInt8.toNat ≠ some 13):=Hj (.inr (by rw [Nat.add_sub_cancel,hbk]; exact fun h => c13 (Option.some.inj h)))
      have hA:=Hj hst2; replace c0:=Hj c0; replace c13:=Hj c13; replace c10:=Hj c10; clear hst2 hd hbk; go_wp2; go_round
      case rel => exact ⟨k + 1,false,by go_num,by omega,hA,Hj (fun h => by cases h),Hj (fun _ => hB.out)⟩
      case measure => simp [intOf]; omega
  ·obtain rfl : k = s.size:=by omega
   have hcf : cr = false:=by
    cases cr with
    | false => rfl
    | true => have:=(hcr.out rfl).2.2; rw [List.getElem?_eq_none (by rw [bs_length]; exact Nat.le_refl _)] at this; cases this
   subst hcf; have hf:=Hj (show true = strB (bs s) by rw [hst.out,drop_all]; rfl)
   go_wp2; go_ret; exact ⟨congrArg (fun b => Ending.returned (.bool b)) hf.out,rfl⟩
end Go.Proofs.YtjffffpfejmoiaaGreatDoor
namespace Go.Proofs.YtjffffpfejmoiaaGreatDoor
open Go.RowKit Syn Hd
namespace Hd
def endF (b : List UInt8) : Int:=if Lib.hasPrefix b [13,10] = true then 2 else if Lib.index b [13,10,13,10] < 0 then -1 else Lib.index b [13,10,13,10] + 4
abbrev MaxL (w : World) : Prop:=∃ m : Int,w.cell? ⟨0,0,none⟩ = some (.int .i64 m)
theorem MaxL.below {w w' : World} (h : MaxL w) (hb : Below w.heap.size w w') : MaxL w':=by
 obtain ⟨m,hm⟩:=h
 exact ⟨m,by rw [hb.cell (p:=⟨0,0,none⟩) (cell_lt hm)]; exact hm⟩
end Hd
theorem numsL_at {l : List UInt8} {i : Nat} (h : i < l.length) : (Lib.numsL l).getD i 0 = (l[i].toNat : Int):=by
 unfold Lib.numsL
 rw [List.getD_eq_getElem?_getD,List.getElem?_map,List.getElem?_eq_getElem h]; rfl
theorem rd_in {w : World} {A : Option Addr} {c : Nat} {l : List UInt8} (h : Rd w 1 (.slice A l.length c) l.length (u8s l)) : Lib.BytesIn w A l.length (Lib.numsL l):=by
 intro hn; obtain ⟨A',c',e,-,-,r⟩:=h
 cases e; obtain ⟨b,o,rfl,-,x⟩:=r hn
 exact ⟨b,o,rfl,fun i hi => by rw [x i _ (u8s_at hi),numsL_at hi]⟩
theorem const_in (w : World) (l : List UInt8) (m : Nat × Nat) : Lib.BytesIn (w.alloc (.cells (u8s l).toArray 5 m)) (some ⟨w.heap.size,0,none⟩) l.length (Lib.numsL l):=by
 intro _; refine ⟨w.heap.size,0,rfl,fun i hi => ?_⟩
 rw [Nat.zero_add,World.cell?_alloc_mark,List.getElem?_toArray,u8s_at hi,numsL_at hi]
theorem numsL_range (l : List UInt8) : ∀ x ∈ Lib.numsL l,0 ≤ x ∧ x < 256:=by
 intro x hx; unfold Lib.numsL at hx
 obtain ⟨c,-,rfl⟩:=List.mem_map.1 hx
 have:=c.toNat_lt
 exact ⟨by omega,by omega⟩
theorem bprefix_any {w : World} {A : Option Addr} {c : Nat} {l p : List UInt8} (W : World) (m : Nat × Nat) (d : Nat) (hW : W = w.alloc (.cells (u8s p).toArray 5 m)) (h : Rd w 1 (.slice A l.length c) l.length (u8s l)) :
  Calls Tryz.prog 121 #[.slice A l.length c,.slice (some ⟨w.heap.size,0,none⟩) p.length d] W fun e w' => e = .returned (.bool (Lib.hasPrefix l p)) ∧ w' = W:=by
 subst hW; have hR:=h.below ((Below.refl w.heap.size w).alloc (Nat.le_refl _) (.cells (u8s p).toArray 5 m)); obtain ⟨A',c',e',hcap,-,-⟩:=id h; cases e'; refine (Any.bytes_HasPrefix_all Tryz.laysb116 A (some ⟨w.heap.size,0,none⟩) l.length c p.length d (Lib.numsL l) (Lib.numsL p) _ (Lib.numsL_length l) (Lib.numsL_length p) hcap (rd_in hR) (const_in w p m)).mono ?_
 rintro e w' ⟨rfl,rfl⟩
 rw [Lib.bytesOf_numsL,Lib.bytesOf_numsL]
 exact ⟨rfl,rfl⟩
set_option maxRecDepth 100000 in
theorem bindex_any {w : World} {A : Option Addr} {c : Nat} {l p : List UInt8} (W : World) (m : Nat × Nat) (d : Nat) (hW : W = w.alloc (.cells (u8s p).toArray 5 m)) (h : Rd w 1 (.slice A l.length c) l.length (u8s l)) (hl : l.length ≤ 1000000) (hp2 : 2 ≤ p.length) (hp : p.length ≤ 1000) (hc0 : A = none → c = 0) (hM : MaxL W) :
  Calls Tryz.prog 122 #[.slice A l.length c,.slice (some ⟨w.heap.size,0,none⟩) p.length d] W fun e w' => e = .returned (.int .i64 (Lib.index l p)) ∧ Below W.heap.size W w':=by
 subst hW; have hR:=h.below ((Below.refl w.heap.size w).alloc (Nat.le_refl _) (.cells (u8s p).toArray 5 m)); obtain ⟨A',c',e',hcap,-,-⟩:=id h; cases e'; obtain ⟨k,hk⟩:=hM
 have hpc:=const_in w p m; obtain ⟨b2,o2,e2,x2⟩:=hpc (by omega)
 cases A with
 | none =>
  have hl0 : l.length = 0:=by
   rcases Nat.eq_zero_or_pos l.length with h0 | h0
   ·exact h0
   ·obtain ⟨b,o,e,-⟩:=rd_in hR h0; cases e
  have hnil:=List.eq_nil_of_length_eq_zero hl0; subst hnil; obtain rfl:=hc0 rfl
  refine (Any.bytes_Index_nil Tryz.lays185 (some ⟨w.heap.size,0,none⟩) p.length d _ (by omega) (fun h => by omega)).mono ?_
  rintro e w' ⟨rfl,rfl⟩
  rw [if_neg (by omega),show Lib.index [] p = -1 from by unfold Lib.index; rw [if_neg (by cases p with | nil => simp at hp2 | cons x y => simp)]]
  exact ⟨rfl,Below.refl _ _⟩
 | some a1 =>
  refine (Any.bytes_Index_at Tryz.lays185 a1 ⟨w.heap.size,0,none⟩ l.length c p.length d (Lib.numsL l) (Lib.numsL p) k _ (Lib.numsL_length l) (Lib.numsL_length p) (numsL_range l) (numsL_range p) (fun i hi => ?_) (fun i hi => ?_) hcap (by omega) (by omega) hk).mono ?_
  ·obtain ⟨b,o,e,x⟩:=rd_in hR (by omega)
   cases e; have hadd : (⟨b,o,none⟩ : Addr).add i = ⟨b,o + i,none⟩:=by unfold Addr.add; split <;> simp_all
   rw [hadd]; exact x i hi
  ·cases e2
   have hadd : (⟨w.heap.size,0,none⟩ : Addr).add i = ⟨w.heap.size,0 + i,none⟩:=by unfold Addr.add; split <;> simp_all
   rw [hadd]; exact x2 i hi
  ·rintro e w' ⟨rfl,q,rfl⟩
   rw [Lib.bytesOf_numsL,Lib.bytesOf_numsL]
   exact ⟨rfl,below_drewN (Below.refl _ _) q⟩
set_option maxRecDepth 100000 in
set_option maxHeartbeats 4000000 in
theorem end_any (b : List UInt8) (A : Option Addr) (cap : Nat) (w : World) (hR : Rd w 1 (.slice A b.length cap) b.length (u8s b)) (hb : b.length ≤ 1000000) (hc0 : A = none → cap = 0) (hM : MaxL w) :
  Calls Tryz.prog 100 #[.slice A b.length cap] w fun e w' => e = .returned (.int .i64 (endF b)) ∧ Below w.heap.size w w':=by
 have hcap : b.length ≤ cap:=by obtain ⟨A',c',e',h,-,-⟩:=id hR; cases e'; exact h
 have hcv:=Lib.run_convert_bytes_const (P:=Tryz.prog) w 23 5 #[.int .u8 13,.int .u8 10] 2 2 Tryz.underlying23 Tryz.underlying5; have hB1:=(Below.refl w.heap.size w).alloc (Nat.le_refl _) (.cells #[.int .u8 13,.int .u8 10] 5 (2,3)); have hPf:=bprefix_any (p:=[13,10]) _ (2,3) 2 rfl hR; have hR1:=hR.below hB1; have hM1:=hM.below hB1; have hE : endF b = if Lib.hasPrefix b [13,10] = true then 2 else if Lib.index b [13,10,13,10] < 0 then -1 else Lib.index b [13,10,13,10] + 4:=rfl
 change Calls Tryz.prog 121 #[.slice A b.length cap,.slice (some ⟨w.heap.size,0,none⟩) 2 2] (w.alloc (.cells #[.int .u8 13,.int .u8 10] 5 (2,3))) _ at hPf
 cases hp : Lib.hasPrefix b [13,10] with
 | true =>
  rw [if_pos hp] at hE
  rw [hp] at hPf
  replace hE:=Hj hE; replace hPf:=Hj hPf; replace hc0:=Hj hc0; replace hp:=Hj hp; replace hB1:=Hj hB1; replace hR:=Hj hR; replace hR1:=Hj hR1; replace hM:=Hj hM; replace hM1:=Hj hM1; go_enter Tryz.func100,Tryz.ntmps100
  go_wp2_with fail
  refine hPf.out.mono ?_
  rintro e w2 ⟨rfl,rfl⟩
  go_wp2; go_ret; exact ⟨by rw [hE.out]; rfl,hB1.out⟩
 | false =>
  rw [if_neg (by rw [hp]; decide)] at hE
  rw [hp] at hPf
  have hge:=Lib.index_ge b [13,10,13,10]; have hle:=Lib.index_le b [13,10,13,10]; have hIxx:=Hj (fun (w1 : World) (hR1 : Rd w1 1 (.slice A b.length cap) b.length (u8s b)) (hM1 : MaxL w1) => show Calls Tryz.prog 122 #[.slice A b.length cap,.slice (some ⟨w1.heap.size,0,none⟩) 4 4] (w1.alloc (.cells #[.int .u8 13,.int .u8 10,.int .u8 13,.int .u8 10] 5 (4,5))) _ from bindex_any (p:=[13,10,13,10]) _ (4,5) 4 rfl hR1 hb (by decide) (by decide) hc0 (hM1.below ((Below.refl _ _).alloc (Nat.le_refl _) _))); generalize Lib.index b [13,10,13,10] = ix at *; replace hc0:=Hj hc0; replace hPf:=Hj hPf; replace hp:=Hj hp; replace hR:=Hj hR; replace hR1:=Hj hR1; replace hM:=Hj hM; replace hM1:=Hj hM1; replace hB1:=Hj hB1; by_cases hi : ix < 0
  ·rw [if_pos hi] at hE
   replace hE:=Hj hE; go_enter Tryz.func100,Tryz.ntmps100
   go_wp2_with fail
   refine hPf.out.mono ?_
   rintro e w2 ⟨rfl,hw2⟩
   have hB2:=Hj (show Below w.heap.size w w2 by rw [hw2]; exact hB1.out)
   have hIx:=Hj (hIxx.out w2 (by rw [hw2]; exact hR1.out) (by rw [hw2]; exact hM1.out))
   have hcv2:=Lib.run_convert_bytes_const (P:=Tryz.prog) w2 23 5 #[.int .u8 13,.int .u8 10,.int .u8 13,.int .u8 10] 4 4 Tryz.underlying23 Tryz.underlying5; clear hw2 hcv; go_wp2_with fail
   refine hIx.out.mono ?_
   rintro e w3 ⟨rfl,hb3⟩
   have hB3:=Hj (Below.next (hB2.out.alloc hB2.out.size (.cells #[.int .u8 13,.int .u8 10,.int .u8 13,.int .u8 10] 5 (4,5))) (by rw [alloc_size']; have:=hB2.out.size; omega) hb3)
   clear hb3; go_wp2; go_ret; exact ⟨by rw [hE.out]; rfl,hB3.out⟩
  ·rw [if_neg hi] at hE
   have hi2 : 0 ≤ ix:=by omega
   replace hE:=Hj hE; go_enter Tryz.func100,Tryz.ntmps100
   go_wp2_with fail
   refine hPf.out.mono ?_
   rintro e w2 ⟨rfl,hw2⟩
   have hB2:=Hj (show Below w.heap.size w w2 by rw [hw2]; exact hB1.out)
   have hIx:=Hj (hIxx.out w2 (by rw [hw2]; exact hR1.out) (by rw [hw2]; exact hM1.out))
   have hcv2:=Lib.run_convert_bytes_const (P:=Tryz.prog) w2 23 5 #[.int .u8 13,.int .u8 10,.int .u8 13,.int .u8 10] 4 4 Tryz.underlying23 Tryz.underlying5; clear hw2 hcv; go_wp2_with fail
   refine hIx.out.mono ?_
   rintro e w3 ⟨rfl,hb3⟩
   have hB3:=Hj (Below.next (hB2.out.alloc hB2.out.size (.cells #[.int .u8 13,.int .u8 10,.int .u8 13,.int .u8 10] 5 (4,5))) (by rw [alloc_size']; have:=hB2.out.size; omega) hb3)
   clear hb3; go_wp2; go_ret; exact ⟨by rw [hE.out]; rfl,hB3.out⟩
end Go.Proofs.YtjffffpfejmoiaaGreatDoor
namespace Go.Proofs.YtjffffpfejmoiaaGreatDoor
open Go.RowKit Syn Hd
namespace Hd
def spl (l : List UInt8) : List (List UInt8):=Lib.splitK [13,10] 0 (Lib.count l [13,10]) l
def lnL (b : List UInt8) : List (List UInt8):=spl (b.take ((endF b).toNat - 4))
def lnE (b : List UInt8) : Int :=
 if endF b < 0 ∧ b.length < 8192 then 21 else if endF b < 0 ∨ 8192 < endF b then 5 else if endF b = 2 then 22 else if 64 < (lnL b).length - 1 then 5 else if strB (b.take (endF b).toNat) = false then 22 else 0
def LnR (w : World) (b : List UInt8) (e : Ending) (w' : World) : Prop :=
 ((lnE b ≠ 0 ∧ e = .returned (.tuple #[.slice none 0 0,.int .i64 0,.iface 57 (.int .i64 (lnE b))])) ∨ (lnE b = 0 ∧ ∃ o,e = .returned (.tuple #[o,.int .i64 (endF b),.nilIface]) ∧ Rd w' 1 o (lnL b).length (strs (lnL b)))) ∧ Below w.heap.size w w'
theorem LnR.bad {w w' : World} {b : List UInt8} {n : Int} (h : lnE b = n) (h0 : n ≠ 0) (hb : Below w.heap.size w w') : LnR w b (.returned (.tuple #[.slice none 0 0,.int .i64 0,.iface 57 (.int .i64 n)])) w' :=
 ⟨.inl ⟨by rw [h]; exact h0,by rw [h]⟩,hb⟩
theorem LnR.good {w w' : World} {b : List UInt8} {o : Value} {n : Int} (h : lnE b = 0) (hn : endF b = n) (ho : Rd w' 1 o (lnL b).length (strs (lnL b))) (hb : Below w.heap.size w w') : LnR w b (.returned (.tuple #[o,.int .i64 n,.nilIface])) w' :=
 ⟨.inr ⟨h,o,by rw [hn],ho⟩,hb⟩
theorem endF_cases (b : List UInt8) : endF b = -1 ∨ (endF b = 2 ∧ 2 ≤ b.length) ∨ ∃ k : Nat,endF b = ((k + 4 : Nat) : Int) ∧ k + 4 ≤ b.length:=by
 unfold endF
 split
 ·next h =>
  refine .inr (.inl ⟨rfl,?_⟩)
  unfold Lib.hasPrefix at h
  have:=(List.isPrefixOf_iff_prefix.1 h).length_le
  simpa using this
 ·split
  ·exact .inl rfl
  ·next h =>
   have h0 : 0 ≤ Lib.index b [13,10,13,10]:=by omega
   have h1:=Lib.index_room b [13,10,13,10] h0; have h2 : (([13,10,13,10] : List UInt8).length : Int) = 4:=rfl
   exact .inr (.inr ⟨(Lib.index b [13,10,13,10]).toNat,by omega,by omega⟩)
theorem spl_pieces (s : ByteArray) : (Lib.splitB ⟨#[13,10]⟩ 0 (Lib.countB s ⟨#[13,10]⟩) s).map Value.string = strs (spl (bs s)):=by
 have h:=Lib.splitB_data ⟨#[13,10]⟩ 0 (Lib.countB s ⟨#[13,10]⟩) s; have h3 : (Lib.splitB ⟨#[13,10]⟩ 0 (Lib.countB s ⟨#[13,10]⟩) s).map bs = spl (bs s):=h
 unfold strs
 rw [← h3,List.map_map]
 congr 1
theorem spl_len (s : ByteArray) : (spl (bs s)).length = Lib.countB s ⟨#[13,10]⟩ + 1 ∧ Lib.countB s ⟨#[13,10]⟩ ≤ s.size:=by
 have h1:=Lib.splitB_all ⟨#[13,10]⟩ (by decide) 0 _ s rfl; have h2:=congrArg List.length (spl_pieces s); rw [List.length_map,h1] at h2
 exact ⟨by rw [h2]; unfold strs; rw [List.length_map],Lib.countB_le ⟨#[13,10]⟩ (by decide) s.size s (Nat.le_refl _)⟩
end Hd
theorem infoS9' : (Tryz.prog.info? 9).map (fun i => (i.zero,i.size,i.bytes)) = some (some (.string ByteArray.empty),1,16):=by kernel_rfl
set_option maxRecDepth 100000 in
theorem split2_any (s : ByteArray) (w : World) (hs : s.size ≤ 1000000) (hM : MaxL w) :
  Calls Tryz.prog 49 #[.string s,.string ⟨#[13,10]⟩] w fun e w' => e = .returned (.slice (some ⟨w.heap.size,0,none⟩) (spl (bs s)).length (spl (bs s)).length) ∧ Rd w' 1 (.slice (some ⟨w.heap.size,0,none⟩) (spl (bs s)).length (spl (bs s)).length) (spl (bs s)).length (strs (spl (bs s))) ∧ Below w.heap.size w w':=by
 obtain ⟨m,hm⟩:=hM
 refine (Any.strings_Split Tryz.lays146 infoS9' s ⟨#[13,10]⟩ m w (by omega) hm (by decide)).mono ?_
 rintro e w' ⟨rfl,rfl⟩
 rw [spl_pieces,← (spl_len s).1]
 refine ⟨rfl,⟨_,_,rfl,Nat.le_refl _,by unfold strs; rw [List.length_map,Nat.mul_one],fun _ => ⟨w.heap.size,0,rfl,by rw [alloc_size']; omega,fun j u hu => ?_⟩⟩,(Below.refl _ _).alloc (Nat.le_refl _) _⟩
 rw [Nat.zero_add,(Blk.new w _ _).cell j,List.getElem?_toArray]
 exact hu
set_option maxRecDepth 100000 in
set_option maxHeartbeats 8000000 in
theorem lines_any (b : List UInt8) (A : Option Addr) (cap : Nat) (w : World) (hR : Rd w 1 (.slice A b.length cap) b.length (u8s b)) (hb : b.length ≤ 1000000) (hc0 : A = none → cap = 0) (hM : MaxL w) :
  Calls Tryz.prog 76 #[.slice A b.length cap] w (LnR w b):=by
 have hcap : b.length ≤ cap:=by obtain ⟨A',c',e',h,-,-⟩:=id hR; cases e'; exact h
 have hEn:=Hj (end_any b A cap w hR hb hc0 hM); have hE : lnE b = if endF b < 0 ∧ b.length < 8192 then 21 else if endF b < 0 ∨ 8192 < endF b then 5 else if endF b = 2 then 22 else if 64 < (lnL b).length - 1 then 5 else if strB (b.take (endF b).toNat) = false then 22 else 0:=rfl
 replace hc0:=Hj hc0; rcases endF_cases b with h1 | ⟨h1,h1'⟩ | ⟨k,h1,h3⟩
 ·rw [h1] at hEn hE
  replace hR:=Hj hR; replace hM:=Hj hM; replace h1:=Hj h1; by_cases h8 : b.length < 8192
  ·rw [if_pos ⟨by decide,h8⟩] at hE
   replace hE:=Hj hE; go_enter Tryz.func76,Tryz.ntmps76
   go_wp2_with fail
   refine hEn.out.mono ?_
   rintro e w1 ⟨rfl,hb1⟩
   replace hb1:=Hj hb1; go_wp2; go_ret3
   exact LnR.bad hE.out (by decide) hb1.out
  ·rw [if_neg (by omega),if_pos (.inl (by decide))] at hE
   replace hE:=Hj hE; go_enter Tryz.func76,Tryz.ntmps76
   go_wp2_with fail
   refine hEn.out.mono ?_
   rintro e w1 ⟨rfl,hb1⟩
   replace hb1:=Hj hb1; go_wp2; go_ret3
   exact LnR.bad hE.out (by decide) hb1.out
 ·rw [h1] at hEn hE
  replace hR:=Hj hR; replace hM:=Hj hM; replace h1:=Hj h1; rw [if_neg (by omega),if_neg (by omega),if_pos rfl] at hE
  replace hE:=Hj hE; go_enter Tryz.func76,Tryz.ntmps76
  go_wp2_with fail
  refine hEn.out.mono ?_
  rintro e w1 ⟨rfl,hb1⟩
  replace hb1:=Hj hb1; go_wp2; go_ret3
  exact LnR.bad hE.out (by decide) hb1.out
 ·have hlL : lnL b = spl (b.take k):=by unfold lnL; rw [h1]; rfl
  rw [h1] at hEn hE
  by_cases h8 : 8192 < k + 4
  ·rw [if_neg (by omega),if_pos (.inr (by omega))] at hE
   replace hR:=Hj hR; replace hM:=Hj hM; replace h1:=Hj h1; replace hlL:=Hj hlL; replace hE:=Hj hE; go_enter Tryz.func76,Tryz.ntmps76
   go_wp2_with fail
   refine hEn.out.mono ?_
   rintro e w1 ⟨rfl,hb1⟩
   replace hb1:=Hj hb1; go_wp2; go_ret3
   exact LnR.bad hE.out (by decide) hb1.out
  ·rw [if_neg (by omega),if_neg (by omega),if_neg (by omega),hlL] at hE
   obtain ⟨blk,off,rfl⟩ : ∃ blk off,A = some ⟨blk,off,none⟩:=by
    obtain ⟨A',c',e',-,-,r⟩:=id hR; cases e'; obtain ⟨bb,oo,e,-⟩:=r (by omega)
    exact ⟨bb,oo,e⟩
   have htl : (b.take (k + 4)).length = k + 4:=by rw [List.length_take]; omega
   have hcv:=fun (w' : World) (hR' : Rd w' 1 (.slice (some ⟨blk,off,none⟩) b.length cap) b.length (u8s b)) => run_rd_str (c:=cap) (A:=some ⟨blk,off,none⟩) (l:=b.take (k + 4)) (by
    have:=Rd.part hR' 0 (k + 4) cap (by omega) (by omega)
    rw [List.drop_zero,Nat.add_zero] at this
    rw [htl]; exact this.2)
   rw [htl] at hcv
   have hz : (str (b.take (k + 4))).size = k + 4:=by rw [str_size,htl]
   have hex : (str (b.take (k + 4))).extract 0 k = str (b.take k):=by rw [extract_str,bs_str,List.drop_zero,List.take_take,show min k (k + 4) = k by omega]
   have hSp:=fun w' h => split2_any (str (b.take k)) w' (by rw [str_size,List.length_take]; omega) h
   have hSl:=spl_len (str (b.take k)); have hSt:=fun w' => straight_any (str (b.take (k + 4))) w' (by omega)
   rw [bs_str] at hSl hSt
   simp only [bs_str] at hSp
   rw [show ((k + 4 : Nat) : Int).toNat = k + 4 from rfl] at hE
   obtain ⟨m,hm⟩ : ∃ m,(spl (b.take k)).length = m + 1:=⟨_,hSl.1⟩
   have hmk : m ≤ 1000000:=by
    have h5:=hSl.2; rw [str_size,List.length_take] at h5
    have h6:=hSl.1; omega
   rw [hm,Nat.add_sub_cancel] at hE
   simp only [hm] at hSp
   have hgood:=fun (w' : World) (o : Value) (h : lnE b = 0) (ho : Rd w' 1 o (m + 1) (strs (spl (b.take k)))) (hb : Below w.heap.size w w') => LnR.good h h1 (by rw [hlL,hm]; exact ho) hb
   have h1' : ((k + 4 : Nat) : Int) = (k : Int) + 4:=rfl
   rw [h1'] at hEn hgood
   clear hSl htl; generalize str (b.take (k + 4)) = s1 at *; generalize str (b.take k) = s2 at *; generalize spl (b.take k) = L at *; replace hcv:=Hj hcv; replace hR:=Hj hR; replace hM:=Hj hM; replace h1:=Hj h1; replace hlL:=Hj hlL; replace hm:=Hj hm; replace hSp:=Hj hSp; replace hSt:=Hj hSt; replace hgood:=Hj hgood; by_cases h64 : 64 < m
   ·rw [if_pos h64] at hE
    replace hE:=Hj hE; go_enter Tryz.func76,Tryz.ntmps76
    go_wp2_with fail
    refine hEn.out.mono ?_
    rintro e w1 ⟨rfl,hb1⟩
    have hcv1:=hcv.out w1 (hR.out.below hb1); have hM1:=Hj (hM.out.below hb1); replace hb1:=Hj hb1; go_wp2_with fail
    refine (hSp.out _ hM1.out).mono ?_
    rintro e w2 ⟨rfl,hr2,hb2⟩
    have hB2:=Hj (Below.next hb1.out hb1.out.size hb2); clear hb2 hr2 hcv1; go_wp2; go_ret3
    exact LnR.bad hE.out (by decide) hB2.out
   ·rw [if_neg h64] at hE
    cases hst : strB (b.take (k + 4)) with
    | false =>
     rw [if_pos hst] at hE
     rw [hst] at hSt
     replace hE:=Hj hE; replace hst:=Hj hst; go_enter Tryz.func76,Tryz.ntmps76
     go_wp2_with fail
     refine hEn.out.mono ?_
     rintro e w1 ⟨rfl,hb1⟩
     have hcv1:=hcv.out w1 (hR.out.below hb1); have hM1:=Hj (hM.out.below hb1); replace hb1:=Hj hb1; go_wp2_with fail
     refine (hSp.out _ hM1.out).mono ?_
     rintro e w2 ⟨rfl,hr2,hb2⟩
     have hB2:=Hj (Below.next hb1.out hb1.out.size hb2); clear hb2 hr2 hcv1; go_wp2_with fail
     refine (hSt.out _).mono ?_
     rintro e w3 ⟨rfl,rfl⟩
     go_wp2; go_ret3
     exact LnR.bad hE.out (by decide) hB2.out
    | true =>
     rw [if_neg (by rw [hst]; decide)] at hE
     rw [hst] at hSt
     replace hE:=Hj hE; replace hst:=Hj hst; go_enter Tryz.func76,Tryz.ntmps76
     go_wp2_with fail
     refine hEn.out.mono ?_
     rintro e w1 ⟨rfl,hb1⟩
     have hcv1:=hcv.out w1 (hR.out.below hb1); have hM1:=Hj (hM.out.below hb1); replace hb1:=Hj hb1; go_wp2_with fail
     refine (hSp.out _ hM1.out).mono ?_
     rintro e w2 ⟨rfl,hr2,hb2⟩
     have hB2:=Hj (Below.next hb1.out hb1.out.size hb2); replace hr2:=Hj hr2; clear hb2 hcv1; go_wp2_with fail
     refine (hSt.out _).mono ?_
     rintro e w3 ⟨rfl,rfl⟩
     go_wp2; go_ret3
     exact hgood.out _ _ hE.out hr2.out hB2.out
end Go.Proofs.YtjffffpfejmoiaaGreatDoor
namespace Go.Proofs.YtjffffpfejmoiaaGreatDoor
open Go.RowKit Go.Lib Fr
theorem contains_blank : ∀ l : Bytes,Lib.containsAny l [32,9] = l.any Syn.blank
 | [] => rfl
 | b :: l => by
  have ih:=contains_blank l; unfold Lib.containsAny at ih ⊢
  have hge:=Lib.indexAny_ge [32,9] l; have hb : ([32,9] : Bytes).contains b = Syn.blank b:=by
   unfold Syn.blank
   simp only [List.contains,List.elem]
   cases (b == 32) <;> cases (b == 9) <;> rfl
  rw [List.any_cons,← ih]
  conv => lhs; unfold Lib.indexAny
  rw [hb]
  cases hbb : Syn.blank b
  ·rw [if_neg (by decide)]
   by_cases h : Lib.indexAny l [32,9] = -1
   ·rw [h]; rfl
   ·rw [if_neg (by rw [beq_iff_eq]; exact h),Bool.false_or]
    rw [decide_eq_decide]; omega
  ·rfl
theorem iterPos_of {w : World} {k : Nat} {s : ByteArray} {p : Nat} (h : w.heap[k]? = some (.stringIter s p)) : w.iterPos k = p:=by
 unfold World.iterPos
 rw [h]
set_option maxRecDepth 100000 in
set_option maxHeartbeats 8000000 in
theorem idxrune_bad (w : World) : Calls Tryz.prog 134 #[.string ⟨#[32,9]⟩,.int .i32 65533] w fun e w' => e = .returned (.int .i64 (-1)) ∧ Below w.heap.size w w':=by
 go_enter Tryz.func134,Tryz.ntmps134
 go_wp2; go_loopw [5,6] (fun _ _ wr => ∃ p : Nat,p ≤ 2 ∧ wr.heap[w.heap.size]? = some (.stringIter ⟨#[32,9]⟩ p) ∧ Hid (Below w.heap.size w wr)) (fun _ _ wr => 2 - wr.iterPos w.heap.size)
 case atStart => exact ⟨0,by omega,World.iter_heap w _ 0,Hj ((Below.refl _ _).alloc (Nat.le_refl _) _)⟩
 case round =>
  obtain ⟨p,hp,hh,hB⟩:=hrel
  have hnw : ∀ q,(wr.iterAt w.heap.size ⟨#[32,9]⟩ q).heap[w.heap.size]? = some (.stringIter ⟨#[32,9]⟩ q):=fun q => iterAt_heap wr w.heap.size _ p q hh
  have hbn : ∀ q,Below w.heap.size w (wr.iterAt w.heap.size ⟨#[32,9]⟩ q):=fun q => below_iterAt hB.out (Nat.le_refl _) _ _
  replace hbn:=Hj hbn; replace hnw:=Hj hnw; rcases (show p = 0 ∨ p = 1 ∨ p = 2 by omega) with rfl | rfl | rfl
  ·have hnx : ∀ ty,(Instr.next (.pointer (some ⟨w.heap.size,0,none⟩)) true ty).run Tryz.prog wr = .ok (.tuple #[.bool true,.int .i64 0,.int .i32 32]) (wr.iterAt w.heap.size ⟨#[32,9]⟩ 1):=fun ty => run_next_ascii_at wr w.heap.size ⟨#[32,9]⟩ 0 ty hh (by decide) (by decide)
   replace hh:=Hj hh; go_wp2; exact ⟨⟨1,by omega,hnw.out 1,Hj (hbn.out 1)⟩,by rw [iterPos_of (hnw.out 1),iterPos_of hh.out]; omega⟩
  ·have hnx : ∀ ty,(Instr.next (.pointer (some ⟨w.heap.size,0,none⟩)) true ty).run Tryz.prog wr = .ok (.tuple #[.bool true,.int .i64 1,.int .i32 9]) (wr.iterAt w.heap.size ⟨#[32,9]⟩ 2):=fun ty => run_next_ascii_at wr w.heap.size ⟨#[32,9]⟩ 1 ty hh (by decide) (by decide)
   replace hh:=Hj hh; go_wp2; exact ⟨⟨2,by omega,hnw.out 2,Hj (hbn.out 2)⟩,by rw [iterPos_of (hnw.out 2),iterPos_of hh.out]; omega⟩
  ·have hnx : ∀ ty,(Instr.next (.pointer (some ⟨w.heap.size,0,none⟩)) true ty).run Tryz.prog wr = .ok (.tuple #[.bool false]) wr:=fun ty => run_next_end_at wr w.heap.size ⟨#[32,9]⟩ 2 ty hh (by decide)
   replace hh:=Hj hh; go_wp2; go_ret; exact ⟨rfl,hB.out⟩
theorem two_bytes {b : ByteArray} (h : b.size = 2) : ∃ y x,b = ⟨#[y,x]⟩:=by
 obtain ⟨⟨l⟩⟩:=b
 match l,h with
 | [y,x],_ => exact ⟨y,x,rfl⟩
theorem idxbyte_at (s : ByteArray) (c : Int) (w : World) : Calls Tryz.prog 106 #[.string s,.int .u8 c] w fun e w' => e = .returned (.int .i64 (Lib.indexByte s.data.toList c.toNat.toUInt8)) ∧ w' = w :=
 Any.strings_IndexByte { Tryz.lays150 with } s c w
theorem idxbyte_empty (c : Int) (w : World) : Calls Tryz.prog 106 #[.string ByteArray.empty,.int .u8 c] w fun e w' => e = .returned (.int .i64 (-1)) ∧ w' = w :=
 idxbyte_at _ c w
theorem idxrune_ascii (r : Int) (w : World) (h0 : 0 ≤ r) (h1 : r < 128) : Calls Tryz.prog 134 #[.string ⟨#[32,9]⟩,.int .i32 r] w fun e w' => e = .returned (.int .i64 (Lib.indexByte [32,9] r.toNat.toUInt8)) ∧ w' = w :=
 Any.strings_IndexRune_ascii { Tryz.lays150 with } ⟨#[32,9]⟩ r w h0 h1
theorem validrune_at (r : Int) (w : World) : Calls Tryz.prog 150 #[.int .i32 r] w fun e w' => e = .returned (.bool (Lib.validRune r)) ∧ w' = w :=
 Any.utf8_ValidRune { Tryz.lays150 with } r w
set_option maxRecDepth 100000 in
set_option maxHeartbeats 8000000 in
theorem idxrune_high (r : Int) (w : World) (h0 : 128 ≤ r) (hx : r ≤ 2147483647) : Calls Tryz.prog 134 #[.string ⟨#[32,9]⟩,.int .i32 r] w fun e w' => e = .returned (.int .i64 (-1)) ∧ Below w.heap.size w w':=by
 by_cases hb : r = 65533
 ·subst hb; exact idxrune_bad w
 ·have hbb : (r == 65533) = false:=beq_eq_false_iff_ne.2 hb
  clear hb; cases hv : Lib.validRune r
  ·go_enter Tryz.func134,Tryz.ntmps134
   go_wp2_with (go_at_call 150; refine (validrune_at _ _).mono ?_; rintro e w' ⟨rfl,rfl⟩; rw [hv])
   go_ret; exact ⟨rfl,Below.refl _ _⟩
  ·obtain ⟨he2,he4,hel⟩:=encode_facts r (by rw [validRune_eq]; exact hv) h0
   obtain ⟨bs,hbs⟩ : ∃ bs,Utf8.encode r = bs:=⟨_,rfl⟩
   rw [hbs] at he2 he4 hel
   have hcv : ∀ w,(convert 21 9 (.int .i32 r)).run Tryz.prog w = .ok (.string bs) w:=fun w => by rw [← hbs]; exact run_convert_int_string w _ _ _ _ (by kernel_rfl) (by kernel_rfl)
   clear hbs; have h0z : ((0 : Int) ≤ r):=by omega
   have hlz : ¬ (r < 128):=by omega
   clear h0 hx; by_cases hn2 : bs.size = 2
   ·obtain ⟨y,x,rfl⟩:=two_bytes hn2
    have hel : 128 ≤ x.toNat:=hel (show (1 : Nat) < 2 by omega)
    have hne : ((((⟨#[32,9]⟩ : ByteArray)[1]'(show (1 : Nat) < 2 by omega)).toNat : Int) != ((⟨#[y,x]⟩ : ByteArray)[1]'(show (1 : Nat) < 2 by omega)).toNat) = true:=bne_iff_ne.2 (by show ((9 : Nat) : Int) ≠ (x.toNat : Int); omega)
    clear he2 he4 hn2; replace hel:=Hj hel; go_enter Tryz.func134,Tryz.ntmps134
    go_wp2_with (go_at_call 150; refine (validrune_at _ _).mono ?_; rintro e w' ⟨rfl,rfl⟩; rw [hv])
    go_step3
    go_wp2; go_loopg [9] 0 (fun g s9 wx => s9 = .int .i64 1 ∧ wx = w')
    case atStart => exact ⟨rfl,rfl⟩
    case round =>
     obtain ⟨rfl,rfl⟩:=hrel
     go_wp2_with fail
     go_step3
     go_wp2_with fail
     go_region
     go_wp2_with fail
     go_region_with (go_at_call 106; refine (idxbyte_empty _ _).mono ?_; rintro e w' ⟨rfl,rfl⟩)
     all_goals go_wp2_with fail
     all_goals first
      | (rw [Exit.noGoto_ret]; go_wp2; rw [Exit.noGoto_ret]; go_ret; exact ⟨rfl,(Below.refl _ _).drew.drew⟩)
      | (exfalso; rename_i h; exact h (by decide))
      | trace_state
   ·have hls : ((bs.size : Int) - 1 < 2) = False:=by simp; omega
    have hw1 : IntKind.i64.wrap ((bs.size : Int) - 1) = (bs.size : Int) - 1:=IntWalk.i64_in _ (by omega)
    go_enter Tryz.func134,Tryz.ntmps134
    go_wp2_with (go_at_call 150; refine (validrune_at _ _).mono ?_; rintro e w' ⟨rfl,rfl⟩; rw [hv])
    go_step3
    go_wp2; go_loopg [9] 0 (fun g s9 wx => s9 = .int .i64 ((bs.size : Int) - 1) ∧ wx = w')
    case atStart => exact ⟨rfl,rfl⟩
    case round =>
     obtain ⟨rfl,rfl⟩:=hrel
     go_wp2_with fail
     rw [Exit.noGoto_ret]
     go_ret; exact ⟨rfl,Below.refl _ _⟩
theorem decode_tail (s : ByteArray) (pos : Nat) (h : pos < s.size) (ha : 128 ≤ (s[pos]'h).toNat) : ∀ k,k < (Utf8.decode s pos).2 → ∃ g : pos + k < s.size,128 ≤ (s[pos + k]'g).toNat:=by
 have hn : ¬ (s[pos]'h).toNat < 128:=by omega
 have h0 : ∃ g : pos + 0 < s.size,128 ≤ (s[pos + 0]'g).toNat:=⟨h,ha⟩
 have hc : ∀ k,(decide (pos + k < s.size) && ((s.get! (pos + k)).toNat / 64 == 2)) = true → ∃ g : pos + k < s.size,128 ≤ (s[pos + k]'g).toNat:=by
  intro k hk; simp only [Bool.and_eq_true,decide_eq_true_eq,beq_iff_eq] at hk
  refine ⟨hk.1,?_⟩
  have e:=get_at s (pos + k) hk.1; rw [Nat.add_zero] at e
  rw [← e]
  omega
 intro k hk; have h1 : (Utf8.decode s pos).2 = 1 ∨ ((Utf8.decode s pos).2 = 2 ∧ (∃ g : pos + 1 < s.size,128 ≤ (s[pos + 1]'g).toNat)) ∨ ((Utf8.decode s pos).2 = 3 ∧ (∃ g : pos + 1 < s.size,128 ≤ (s[pos + 1]'g).toNat) ∧ (∃ g : pos + 2 < s.size,128 ≤ (s[pos + 2]'g).toNat)) ∨ ((Utf8.decode s pos).2 = 4 ∧ (∃ g : pos + 1 < s.size,128 ≤ (s[pos + 1]'g).toNat) ∧ (∃ g : pos + 2 < s.size,128 ≤ (s[pos + 2]'g).toNat) ∧ (∃ g : pos + 3 < s.size,128 ≤ (s[pos + 3]'g).toNat)):=by
  simp only [Utf8.decode,get_at s pos h,hn,if_false]
  split
  ·rename_i h2
   simp only [Bool.and_eq_true] at h2
   have c1:=hc 1 (by simpa using h2.2); split
   ·exact .inr (.inl ⟨rfl,c1⟩)
   ·exact .inl rfl
  ·split
   ·rename_i h3
    rw [Bool.and_eq_true,Bool.and_eq_true] at h3
    have c1:=hc 1 h3.1.2; have c2:=hc 2 h3.2; split
    ·exact .inr (.inr (.inl ⟨rfl,c1,c2⟩))
    ·exact .inl rfl
   ·split
    ·rename_i h4
     rw [Bool.and_eq_true,Bool.and_eq_true,Bool.and_eq_true] at h4
     have c1:=hc 1 h4.1.1.2; have c2:=hc 2 h4.1.2; have c3:=hc 3 h4.2; split
     ·exact .inr (.inr (.inr ⟨rfl,c1,c2,c3⟩))
     ·exact .inl rfl
    ·exact .inl rfl
 rcases h1 with e | ⟨e,c1⟩ | ⟨e,c1,c2⟩ | ⟨e,c1,c2,c3⟩
 ·obtain rfl : k = 0:=by omega
  exact h0
 ·rcases (show k = 0 ∨ k = 1 by omega) with rfl | rfl
  ·exact h0
  ·exact c1
 ·rcases (show k = 0 ∨ k = 1 ∨ k = 2 by omega) with rfl | rfl | rfl
  ·exact h0
  ·exact c1
  ·exact c2
 ·rcases (show k = 0 ∨ k = 1 ∨ k = 2 ∨ k = 3 by omega) with rfl | rfl | rfl | rfl
  ·exact h0
  ·exact c1
  ·exact c2
  ·exact c3
theorem noany_high {s : ByteArray} {i : Nat} (h : NoAny s.data.toList [32,9] i) (hi : i < s.size) (ha : 128 ≤ (s[i]'hi).toNat) : NoAny s.data.toList [32,9] (i + (Utf8.decode s i).2):=by
 intro j b hj hb; by_cases hji : j < i
 ·exact h j b hji hb
 ·obtain ⟨g,hg⟩:=decode_tail s i hi ha (j - i) (by omega)
  have e : s.data.toList[i + (j - i)]? = some (s[i + (j - i)]'g):=Lib.data_getElem? s _ g
  generalize s[i + (j - i)]'g = c at hg e
  rw [show i + (j - i) = j by omega,hb] at e
  obtain rfl : b = c:=Option.some.inj e
  have h1 : (b == 32) = false:=by rw [beq_eq_false_iff_ne]; rintro rfl; revert hg; decide
  have h2 : (b == 9) = false:=by rw [beq_eq_false_iff_ne]; rintro rfl; revert hg; decide
  simp [List.contains,List.elem,h1,h2]
theorem shoulduse_at (n : Int) (w : World) : Calls Tryz.prog 153 #[.int .i64 n] w fun e w' => e = .returned (.bool (decide (8 < n))) ∧ w' = w :=
 Any.strings_shouldUseASCIISet { Tryz.lays150 with } n w
set_option maxRecDepth 100000 in
set_option maxHeartbeats 8000000 in
theorem indexany_short (s : ByteArray) (w : World) (h8 : s.size ≤ 8) : Calls Tryz.prog 143 #[.string s,.string ⟨#[32,9]⟩] w fun e w' => e = .returned (.int .i64 (Lib.indexAny s.data.toList [32,9])) ∧ Below w.heap.size w w':=by
 have h8z : decide ((8 : Int) < (s.size : Int)) = false:=decide_eq_false (by omega)
 go_enter Tryz.func143,Tryz.ntmps143
 go_wp2_with (go_at_call 153; refine (shoulduse_at _ _).mono ?_; rintro e w' ⟨rfl,hw⟩; rw [hw,h8z])
 go_loopw [9,10] (fun _ _ wr => ∃ p : Nat,p ≤ s.size ∧ wr.heap[w.heap.size]? = some (.stringIter s p) ∧ Hid (Below w.heap.size w wr) ∧ Hid (NoAny s.data.toList [32,9] p)) (fun _ _ wr => s.size - wr.iterPos w.heap.size)
 case atStart => exact ⟨0,by omega,World.iter_heap w _ 0,Hj ((Below.refl _ _).alloc (Nat.le_refl _) _),Hj (NoAny.zero _ _)⟩
 case round =>
  obtain ⟨p,hp,hh,hB,hN⟩:=hrel
  have hnw : ∀ q,(wr.iterAt w.heap.size s q).heap[w.heap.size]? = some (.stringIter s q):=fun q => iterAt_heap wr w.heap.size _ p q hh
  have hbn : ∀ q,Below w.heap.size w (wr.iterAt w.heap.size s q):=fun q => below_iterAt hB.out (Nat.le_refl _) _ _
  have hsn : ∀ q,(wr.iterAt w.heap.size s q).heap.size = wr.heap.size:=fun q => iterAt_size _ _ _ _
  have hlt : w.heap.size < wr.heap.size:=(Array.getElem?_eq_some_iff.1 hh).1
  by_cases hps : p < s.size
  ·obtain ⟨x,hx⟩ : ∃ x : UInt8,s[p]'hps = x:=⟨_,rfl⟩
   have hxl : s.data.toList[p]? = some x:=by rw [← hx]; exact Lib.data_getElem? s p hps
   by_cases hx8 : x.toNat < 128
   ·have hnx : ∀ ty,(Instr.next (.pointer (some ⟨w.heap.size,0,none⟩)) true ty).run Tryz.prog wr = .ok (.tuple #[.bool true,.int .i64 p,.int .i32 x.toNat]) (wr.iterAt w.heap.size s (p + 1)):=fun ty => by
     have:=run_next_ascii_at (P:=Tryz.prog) wr w.heap.size s p ty hh hps (by rw [hx]; exact hx8)
     rw [hx] at this
     exact this
    replace hh:=Hj hh; have hB1:=hbn (p + 1); have hh1:=hnw (p + 1); have hs1:=hsn (p + 1); clear hnw hbn hsn; generalize wr.iterAt w.heap.size s (p + 1) = wz at *; replace hB1:=Hj hB1; replace hh1:=Hj hh1; have hcon:=Lib.contains_iff_indexByte [32,9] x; have hback : ((x.toNat : Int)).toNat.toUInt8 = x:=by simp
    replace hxl:=Hj hxl; clear hx; cases hin : ([32,9] : Bytes).contains x
    ·rw [hin] at hcon
     have hlt : ¬ ((0 : Int) ≤ Lib.indexByte [32,9] x):=of_decide_eq_false hcon.symm
     clear hcon; go_wp2_with (go_at_call 134; refine (idxrune_ascii _ _ (by omega) (by omega)).mono ?_; rintro e w' ⟨rfl,hw⟩; rw [hw,hback])
     exact ⟨⟨p + 1,by omega,hh1.out,hB1,Hj (hN.out.succ hxl.out hin)⟩,by rw [iterPos_of hh1.out,iterPos_of hh.out]; omega⟩
    ·rw [hin] at hcon
     have hge : (0 : Int) ≤ Lib.indexByte [32,9] x:=of_decide_eq_true hcon.symm
     clear hcon; go_wp2_with (go_at_call 134; refine (idxrune_ascii _ _ (by omega) (by omega)).mono ?_; rintro e w' ⟨rfl,hw⟩; rw [hw,hback])
     go_ret; exact ⟨by rw [Lib.indexAny_hit hN.out hxl.out hin]; rfl,hB1.out⟩
   ·have hx9 : 128 ≤ (s[p]'hps).toNat:=by rw [hx]; omega
    obtain ⟨hd1,hd2⟩:=decode_high s p hps hx9
    have hd3:=decode_le s p; have hd4 : p + (Utf8.decode s p).2 ≤ s.size:=by
     obtain ⟨g,-⟩:=decode_tail s p hps hx9 ((Utf8.decode s p).2 - 1) (by omega)
     omega
    have hN1:=noany_high hN.out hps hx9; have hnx : ∀ ty,(Instr.next (.pointer (some ⟨w.heap.size,0,none⟩)) true ty).run Tryz.prog wr = .ok (.tuple #[.bool true,.int .i64 p,.int .i32 (Utf8.decode s p).1]) (wr.iterAt w.heap.size s (p + (Utf8.decode s p).2)):=fun ty => run_next_any_at wr w.heap.size s p ty hh hps
    generalize (Utf8.decode s p).1 = r at *; generalize (Utf8.decode s p).2 = d at *; replace hh:=Hj hh; have hB1:=hbn (p + d); have hh1:=hnw (p + d); have hs1:=hsn (p + d); clear hnw hbn hsn hx hxl hx8 hx9; generalize wr.iterAt w.heap.size s (p + d) = wz at *; replace hB1:=Hj hB1; replace hh1:=Hj hh1; replace hN1:=Hj hN1; have hc : Calls Tryz.prog 134 #[.string ⟨#[32,9]⟩,.int .i32 r] wz fun e w' => e = .returned (.int .i64 (-1)) ∧ w'.heap[w.heap.size]? = some (.stringIter s (p + d)) ∧ Hid (Below w.heap.size w w'):=(idxrune_high (r : Int) wz (by omega) (by omega)).mono fun e w' ⟨h1,h2⟩ => ⟨h1,(h2.block _ (by omega)).trans hh1.out,Hj (hB1.out.trans (h2.mono (by omega)))⟩
    replace hc:=Hj hc; go_wp2_with (go_at_call 134; refine hc.out.mono ?_; rintro e w' ⟨rfl,hi2,hB2⟩; replace hi2:=Hj hi2)
    exact ⟨⟨p + d,by omega,hi2.out,hB2,hN1⟩,by rw [iterPos_of hi2.out,iterPos_of hh.out]; omega⟩
  ·obtain rfl : p = s.size:=by omega
   have hnx : ∀ ty,(Instr.next (.pointer (some ⟨w.heap.size,0,none⟩)) true ty).run Tryz.prog wr = .ok (.tuple #[.bool false]) wr:=fun ty => run_next_end_at wr w.heap.size s s.size ty hh (by omega)
   replace hh:=Hj hh; clear hnw hbn hsn; go_wp2; go_ret; exact ⟨by rw [Lib.indexAny_none (by rw [← Lib.size_eq]; exact hN.out)]; rfl,hB.out⟩
theorem indexany_any (s : ByteArray) (w : World) (hs : s.size ≤ 4294967280) : Calls Tryz.prog 143 #[.string s,.string ⟨#[32,9]⟩] w fun e w' => e = .returned (.int .i64 (Lib.indexAny s.data.toList [32,9])) ∧ Below w.heap.size w w':=by
 by_cases h8 : s.size ≤ 8
 ·exact indexany_short s w h8
 ·have h116 : (Tryz.prog.info? (Tryz.lays150_ren.t 116)).map (fun i => (i.zero,i.size)) = some (some (.agg (Array.replicate 256 (.bool false))),256):=by kernel_rfl
  refine (Any.strings_IndexAny_long { Tryz.lays150 with } (zero_of_info h116).1 (zero_of_info h116).2 s ⟨#[32,9]⟩ w (by decide) (by omega) (by omega) (by decide) (ascii_of_all (by decide))).mono fun e w' ⟨h1,h2⟩ => ⟨h1,?_⟩
  rw [h2]
  exact ((Below.refl _ _).alloc (Nat.le_refl _) _).alloc (by simp) _
set_option maxHeartbeats 1000000 in
theorem containsany_any (n : Bytes) (w : World) (hn : n.length ≤ 4294967280) : Calls Tryz.prog 124 #[.string (str n),.string ⟨#[32,9]⟩] w fun e w' => e = .returned (.bool (n.any Syn.blank)) ∧ Below w.heap.size w w':=by
 have hi:=indexany_any (str n) w (by rw [str_size]; exact hn)
 rw [← contains_blank]
 unfold Lib.containsAny
 go_enter Tryz.func124,Tryz.ntmps124
 go_wp2_with (go_at_call 143; refine hi.mono ?_; rintro e w' ⟨rfl,hw⟩)
 go_ret; exact ⟨rfl,hw⟩
end Go.Proofs.YtjffffpfejmoiaaGreatDoor
namespace Go.Proofs.YtjffffpfejmoiaaGreatDoor
open Go.RowKit Syn Fr Hd Ck
namespace Hd
def hdN (l : List UInt8) : List UInt8:=l.takeWhile (· != 58)
def hdR (l : List UInt8) : List UInt8:=(l.dropWhile (· != 58)).drop 1
def fst (c : UInt8) (l : List UInt8) : Bool:=l.head?.any (fun x => decide (x = c))
def hdE (l : List UInt8) : Int :=
 if fst 32 l = true ∨ fst 9 l = true then 23 else if (l.dropWhile (· != 58)).isEmpty = true ∨ hdN l = [] then 25 else if (hdN l).any Syn.blank = true then 24 else if nmE (hdN l) ≠ 0 then 25 else if vlE (hdR l) ≠ 0 then 25 else 0
def hdV (l : List UInt8) : List UInt8 × List UInt8:=if hdE l = 0 then (nmV (hdN l),vlV (hdR l)) else ([],[])
theorem hdV_bad {l : List UInt8} (h : hdE l ≠ 0) : hdV l = ([],[]):=if_neg h
end Hd
set_option maxHeartbeats 1000000 in
theorem sprefix_any (s : ByteArray) (c : UInt8) (w : World) (hs : s.size ≤ 1000000) :
  Calls Tryz.prog 123 #[.string s,.string ⟨#[c]⟩] w fun e w' => e = .returned (.bool (fst c (bs s))) ∧ w' = w:=by
 have hL : ∀ w,Calls Tryz.prog 142 #[.string s,.string ⟨#[c]⟩] w fun e w' => e = .returned (.bool (fst c (bs s))) ∧ w' = w:=fun w => by
  by_cases h : 1 ≤ s.size
  ·have hx : s.extract 0 1 = str [s[0]]:=by
    rw [extract_str,List.drop_zero]
    congr 1
    have h1:=take_at s 0 h; rw [Nat.zero_add] at h1
    rw [h1]; rfl
   have hr : fst c (bs s) = ((str [s[0]]).toList == [c]):=by
    unfold fst; rw [head_at s h,Option.any_some,str_toList]
    by_cases hc : s[0] = c
    ·rw [hc,decide_eq_true rfl]; exact (beq_self_eq_true _).symm
    ·rw [decide_eq_false hc]; symm; rw [beq_eq_false_iff_ne]; intro hh; exact hc (by simpa using hh)
   cases hq : ((str [s[0]]).toList == [c])
   ·rw [hq] at hr
    generalize str [s[0]] = x at *; replace hr:=Hj hr; go_enter Tryz.func142,Tryz.ntmps142
    go_wp2; go_ret; exact ⟨congrArg (fun b => Ending.returned (.bool b)) (show _ = fst c (bs s) by first | (rw [hr.out]; done) | (rw [hr.out]; exact hq)),rfl⟩
   ·rw [hq] at hr
    generalize str [s[0]] = x at *; replace hr:=Hj hr; go_enter Tryz.func142,Tryz.ntmps142
    go_wp2; go_ret; exact ⟨congrArg (fun b => Ending.returned (.bool b)) (show _ = fst c (bs s) by first | (rw [hr.out]; done) | (rw [hr.out]; exact hq)),rfl⟩
  ·have hr:=Hj (show fst c (bs s) = false by
    have : bs s = []:=List.eq_nil_of_length_eq_zero (by rw [bs_length]; omega)
    rw [this]; rfl)
   go_enter Tryz.func142,Tryz.ntmps142
   go_wp2; go_ret; exact ⟨congrArg (fun b => Ending.returned (.bool b)) hr.out.symm,rfl⟩
 replace hL:=Hj hL; go_enter Tryz.func123,Tryz.ntmps123
 go_wp2_with fail
 refine (hL.out _).mono ?_
 rintro e w1 ⟨rfl,rfl⟩
 go_wp2; go_ret; exact ⟨rfl,rfl⟩
set_option maxRecDepth 100000 in
set_option maxHeartbeats 16000000 in
theorem header_any (s : ByteArray) (w : World) (hs : s.size ≤ 1000000) :
  Calls Tryz.prog 102 #[.string s] w fun e w' => e = .returned (.tuple #[.agg #[.string (str (hdV (bs s)).1),.string (str (hdV (bs s)).2)],errV (hdE (bs s))]) ∧ Below w.heap.size w w':=by
 have hn:=bs_length s; have hE : hdE (bs s) = if fst 32 (bs s) = true ∨ fst 9 (bs s) = true then 23 else if ((bs s).dropWhile (· != 58)).isEmpty = true ∨ hdN (bs s) = [] then 25 else if (hdN (bs s)).any Syn.blank = true then 24 else if nmE (hdN (bs s)) ≠ 0 then 25 else if vlE (hdR (bs s)) ≠ 0 then 25 else 0:=rfl
 have hbad : ∀ n : Int,n ≠ 0 → hdE (bs s) = n → Ending.returned (.tuple #[.agg #[.string ByteArray.empty,.string ByteArray.empty],.iface 57 (.int .i64 n)]) = Ending.returned (.tuple #[.agg #[.string (str (hdV (bs s)).1),.string (str (hdV (bs s)).2)],errV (hdE (bs s))]):=fun n h0 h => by
  rw [hdV_bad (by rw [h]; exact h0),h,herr_ne h0]; rfl
 have hgood : hdE (bs s) = 0 → Ending.returned (.tuple #[.agg #[.string (str (nmV (hdN (bs s)))),.string (str (vlV (hdR (bs s))))],.nilIface]) = Ending.returned (.tuple #[.agg #[.string (str (hdV (bs s)).1),.string (str (hdV (bs s)).2)],errV (hdE (bs s))]):=fun h => by
  unfold hdV; rw [if_pos h,h]; rfl
 have hP1:=Hj (fun w => sprefix_any s 32 w hs); have hP2:=Hj (fun w => sprefix_any s 9 w hs); have hC:=Hj (fun w => cut_any s 58 w (by unfold maxLen; omega))
 unfold cutV at hC
 rw [show (bs s).takeWhile (· != 58) = hdN (bs s) from rfl,show ((bs s).dropWhile (· != 58)).drop 1 = hdR (bs s) from rfl] at hC
 have l1 : (hdN (bs s)).length ≤ 1000000:=by
  have:=(List.takeWhile_prefix (p:=(· != 58)) (l:=bs s)).length_le
  unfold hdN; omega
 have l2 : (hdR (bs s)).length ≤ 1000000:=by
  have:=(List.dropWhile_suffix (p:=(· != 58)) (l:=bs s)).length_le
  unfold hdR; rw [List.length_drop]; omega
 have hA:=Hj (fun w => containsany_any (hdN (bs s)) w (by omega)); have hN:=fun w => fname_any (str (hdN (bs s))) w (by rw [str_size]; omega)
 have hV:=fun w => fvalue_any (str (hdR (bs s))) w (by rw [str_size]; omega)
 simp only [bs_str] at hN hV
 replace hN:=Hj hN; replace hV:=Hj hV; have hK0:=Hj (Blk.new w 26 #[.string ByteArray.empty,.string ByteArray.empty]); have hB0:=Hj ((Below.refl w.heap.size w).alloc (Nat.le_refl _) (.cells #[.string ByteArray.empty,.string ByteArray.empty] 26)); replace hbad:=Hj hbad; replace hgood:=Hj hgood; generalize hdN (bs s) = nm at *; generalize hdR (bs s) = vl at *; generalize (((bs s).dropWhile (· != 58)).isEmpty) = em at *; have zn:=str_size nm; cases k1 : fst 32 (bs s) with
 | true =>
  rw [if_pos (.inl k1)] at hE
  rw [k1] at hP1
  replace k1:=Hj k1; have hR:=Hj (hbad.out _ (by decide) hE); replace hE:=Hj hE; generalize str nm = sn at *; generalize str vl = sv at *; go_enter Tryz.func102,Tryz.ntmps102
  go_wp2_with fail
  refine (hP1.out _).mono ?_
  rintro e w1 ⟨rfl,rfl⟩
  go_wp2; exact ret_blk rfl rfl rfl hK0.out Tryz.underlying26 rfl (by kernel_rfl) ⟨hR.out,hB0.out⟩
 | false =>
  rw [k1] at hP1
  cases k2 : fst 9 (bs s) with
  | true =>
   rw [if_pos (.inr k2)] at hE
   rw [k2] at hP2
   replace k1:=Hj k1; replace k2:=Hj k2; have hR:=Hj (hbad.out _ (by decide) hE); replace hE:=Hj hE; generalize str nm = sn at *; generalize str vl = sv at *; go_enter Tryz.func102,Tryz.ntmps102
   go_wp2_with fail
   refine (hP1.out _).mono ?_
   rintro e w1 ⟨rfl,rfl⟩
   go_wp2_with fail
   refine (hP2.out _).mono ?_
   rintro e w1 ⟨rfl,rfl⟩
   go_wp2; exact ret_blk rfl rfl rfl hK0.out Tryz.underlying26 rfl (by kernel_rfl) ⟨hR.out,hB0.out⟩
  | false =>
   rw [if_neg (by rw [k1,k2]; simp)] at hE
   rw [k2] at hP2
   replace k1:=Hj k1; replace k2:=Hj k2; cases em with
   | true =>
    rw [if_pos (.inl rfl)] at hE
    have hR:=Hj (hbad.out _ (by decide) hE); replace hE:=Hj hE; generalize str nm = sn at *; generalize str vl = sv at *; go_enter Tryz.func102,Tryz.ntmps102
    go_wp2_with fail
    refine (hP1.out _).mono ?_
    rintro e w1 ⟨rfl,rfl⟩
    go_wp2_with fail
    refine (hP2.out _).mono ?_
    rintro e w1 ⟨rfl,rfl⟩
    go_wp2_with fail
    refine (hC.out _).mono ?_
    rintro e w1 ⟨rfl,n1,rfl⟩
    have hK1:=Hj (hK0.out.drewN n1); have hB1:=Hj (below_drewN hB0.out n1); have f0:=hK1.out.cell 0; have f1:=hK1.out.cell 1; have g0:=hK1.out.frozen 0; have g1:=hK1.out.frozen 1; go_wp2; exact ret_blk rfl rfl rfl (hK1.out.two (.string ByteArray.empty) (.string ByteArray.empty)) Tryz.underlying26 rfl (by kernel_rfl) ⟨hR.out,(hB1.out.setCell (p:=⟨w.heap.size,0,none⟩) (Nat.le_refl _) _).setCell (p:=⟨w.heap.size,1,none⟩) (Nat.le_refl _) _⟩
   | false =>
    by_cases k3 : nm = []
    ·rw [if_pos (.inr k3)] at hE
     have hR:=Hj (hbad.out _ (by decide) hE); have q1 : ((str nm).toList == []) = true:=by rw [str_toList,k3]; rfl
     replace hE:=Hj hE; replace k3:=Hj k3; have q2 : (str nm).toList.isEmpty = true:=by rw [str_toList,k3.out]; rfl
     generalize str nm = sn at *; generalize str vl = sv at *; go_enter Tryz.func102,Tryz.ntmps102
     go_wp2_with fail
     refine (hP1.out _).mono ?_
     rintro e w1 ⟨rfl,rfl⟩
     go_wp2_with fail
     refine (hP2.out _).mono ?_
     rintro e w1 ⟨rfl,rfl⟩
     go_wp2_with fail
     refine (hC.out _).mono ?_
     rintro e w1 ⟨rfl,n1,rfl⟩
     have hK1:=Hj (hK0.out.drewN n1); have hB1:=Hj (below_drewN hB0.out n1); have f0:=hK1.out.cell 0; have f1:=hK1.out.cell 1; have g0:=hK1.out.frozen 0; have g1:=hK1.out.frozen 1; go_wp2; exact ret_blk rfl rfl rfl (hK1.out.two (.string ByteArray.empty) (.string ByteArray.empty)) Tryz.underlying26 rfl (by kernel_rfl) ⟨hR.out,(hB1.out.setCell (p:=⟨w.heap.size,0,none⟩) (Nat.le_refl _) _).setCell (p:=⟨w.heap.size,1,none⟩) (Nat.le_refl _) _⟩
    ·rw [if_neg (by rintro (h | h); cases h; exact k3 h)] at hE
     have q1 : ((str nm).toList == []) = false:=by rw [str_toList,beq_eq_false_iff_ne]; exact k3
     have q2 : (str nm).toList.isEmpty = false:=by rw [str_toList]; cases nm with | nil => exact absurd rfl k3 | cons a b => rfl
     replace k3:=Hj k3; cases k4 : nm.any Syn.blank with
     | true =>
      rw [if_pos k4] at hE
      rw [k4] at hA
      replace k4:=Hj k4; have hR:=Hj (hbad.out _ (by decide) hE); replace hE:=Hj hE; generalize str nm = sn at *; generalize str vl = sv at *; go_enter Tryz.func102,Tryz.ntmps102
      go_wp2_with fail
      refine (hP1.out _).mono ?_
      rintro e w1 ⟨rfl,rfl⟩
      go_wp2_with fail
      refine (hP2.out _).mono ?_
      rintro e w1 ⟨rfl,rfl⟩
      go_wp2_with fail
      refine (hC.out _).mono ?_
      rintro e w1 ⟨rfl,n1,rfl⟩
      have hK1:=Hj (hK0.out.drewN n1); have hB1:=Hj (below_drewN hB0.out n1); go_wp2_with fail
      refine (hA.out _).mono ?_
      rintro e w2 ⟨rfl,hb2⟩
      have hb2':=Below.next hB1.out hB1.out.size hb2; have hK2:=Hj (hK1.out.below hb2); have hB2:=Hj hb2'; clear hb2 hb2'; have f0:=hK2.out.cell 0; have f1:=hK2.out.cell 1; have g0:=hK2.out.frozen 0; have g1:=hK2.out.frozen 1; go_wp2; exact ret_blk rfl rfl rfl (hK2.out.two (.string ByteArray.empty) (.string ByteArray.empty)) Tryz.underlying26 rfl (by kernel_rfl) ⟨hR.out,(hB2.out.setCell (p:=⟨w.heap.size,0,none⟩) (Nat.le_refl _) _).setCell (p:=⟨w.heap.size,1,none⟩) (Nat.le_refl _) _⟩
     | false =>
      rw [if_neg (by rw [k4]; decide)] at hE
      rw [k4] at hA
      replace k4:=Hj k4; by_cases k5 : nmE nm = 0
      ·rw [if_neg (fun h => h k5)] at hE
       rw [k5,errV_zero] at hN
       replace k5:=Hj k5; by_cases k6 : vlE vl = 0
       ·rw [if_neg (fun h => h k6)] at hE
        rw [k6,errV_zero] at hV
        replace k6:=Hj k6; have hR:=Hj (hgood.out hE); replace hE:=Hj hE; generalize str (nmV nm) = snm at *; generalize str (vlV vl) = svl at *; generalize str nm = sn at *; generalize str vl = sv at *; go_enter Tryz.func102,Tryz.ntmps102
        go_wp2_with fail
        refine (hP1.out _).mono ?_
        rintro e w1 ⟨rfl,rfl⟩
        go_wp2_with fail
        refine (hP2.out _).mono ?_
        rintro e w1 ⟨rfl,rfl⟩
        go_wp2_with fail
        refine (hC.out _).mono ?_
        rintro e w1 ⟨rfl,n1,rfl⟩
        have hK1:=Hj (hK0.out.drewN n1); have hB1:=Hj (below_drewN hB0.out n1); go_wp2_with fail
        refine (hA.out _).mono ?_
        rintro e w2 ⟨rfl,hb2⟩
        have hb2':=Below.next hB1.out hB1.out.size hb2; have hK2:=Hj (hK1.out.below hb2); have hB2:=Hj hb2'; clear hb2 hb2'; go_wp2_with fail
        refine (hN.out _).mono ?_
        rintro e w3 ⟨rfl,hb3⟩
        have hb3':=Below.next hB2.out hB2.out.size hb3; have hK3:=Hj (hK2.out.below hb3); have hB3:=Hj hb3'; clear hb3 hb3'; go_wp2_with fail
        refine (hV.out _).mono ?_
        rintro e w4 ⟨rfl,hb4⟩
        have hb4':=Below.next hB3.out hB3.out.size hb4; have hK4:=Hj (hK3.out.below hb4); have hB4:=Hj hb4'; clear hb4 hb4'; have f0:=hK4.out.cell 0; have f1:=hK4.out.cell 1; have g0:=hK4.out.frozen 0; have g1:=hK4.out.frozen 1; go_wp2; exact ret_blk rfl rfl rfl (hK4.out.two (.string snm) (.string svl)) Tryz.underlying26 rfl (by kernel_rfl) ⟨hR.out,(hB4.out.setCell (p:=⟨w.heap.size,0,none⟩) (Nat.le_refl _) _).setCell (p:=⟨w.heap.size,1,none⟩) (Nat.le_refl _) _⟩
       ·rw [if_pos k6] at hE
        rw [herr_ne k6] at hV
        replace k6:=Hj k6; have hR:=Hj (hbad.out _ (by decide) hE); replace hE:=Hj hE; generalize vlE vl = ve at *; generalize str (nmV nm) = snm at *; generalize str (vlV vl) = svl at *; generalize str nm = sn at *; generalize str vl = sv at *; go_enter Tryz.func102,Tryz.ntmps102
        go_wp2_with fail
        refine (hP1.out _).mono ?_
        rintro e w1 ⟨rfl,rfl⟩
        go_wp2_with fail
        refine (hP2.out _).mono ?_
        rintro e w1 ⟨rfl,rfl⟩
        go_wp2_with fail
        refine (hC.out _).mono ?_
        rintro e w1 ⟨rfl,n1,rfl⟩
        have hK1:=Hj (hK0.out.drewN n1); have hB1:=Hj (below_drewN hB0.out n1); go_wp2_with fail
        refine (hA.out _).mono ?_
        rintro e w2 ⟨rfl,hb2⟩
        have hb2':=Below.next hB1.out hB1.out.size hb2; have hK2:=Hj (hK1.out.below hb2); have hB2:=Hj hb2'; clear hb2 hb2'; go_wp2_with fail
        refine (hN.out _).mono ?_
        rintro e w3 ⟨rfl,hb3⟩
        have hb3':=Below.next hB2.out hB2.out.size hb3; have hK3:=Hj (hK2.out.below hb3); have hB3:=Hj hb3'; clear hb3 hb3'; go_wp2_with fail
        refine (hV.out _).mono ?_
        rintro e w4 ⟨rfl,hb4⟩
        have hb4':=Below.next hB3.out hB3.out.size hb4; have hK4:=Hj (hK3.out.below hb4); have hB4:=Hj hb4'; clear hb4 hb4'; have f0:=hK4.out.cell 0; have f1:=hK4.out.cell 1; have g0:=hK4.out.frozen 0; have g1:=hK4.out.frozen 1; go_wp2; exact ret_blk rfl rfl rfl (hK4.out.two (.string ByteArray.empty) (.string ByteArray.empty)) Tryz.underlying26 rfl (by kernel_rfl) ⟨hR.out,(hB4.out.setCell (p:=⟨w.heap.size,0,none⟩) (Nat.le_refl _) _).setCell (p:=⟨w.heap.size,1,none⟩) (Nat.le_refl _) _⟩
      ·rw [if_pos k5] at hE
       rw [herr_ne k5] at hN
       replace k5:=Hj k5; have hR:=Hj (hbad.out _ (by decide) hE); replace hE:=Hj hE; generalize nmE nm = ne at *; generalize str (nmV nm) = snm at *; generalize str nm = sn at *; generalize str vl = sv at *; go_enter Tryz.func102,Tryz.ntmps102
       go_wp2_with fail
       refine (hP1.out _).mono ?_
       rintro e w1 ⟨rfl,rfl⟩
       go_wp2_with fail
       refine (hP2.out _).mono ?_
       rintro e w1 ⟨rfl,rfl⟩
       go_wp2_with fail
       refine (hC.out _).mono ?_
       rintro e w1 ⟨rfl,n1,rfl⟩
       have hK1:=Hj (hK0.out.drewN n1); have hB1:=Hj (below_drewN hB0.out n1); go_wp2_with fail
       refine (hA.out _).mono ?_
       rintro e w2 ⟨rfl,hb2⟩
       have hb2':=Below.next hB1.out hB1.out.size hb2; have hK2:=Hj (hK1.out.below hb2); have hB2:=Hj hb2'; clear hb2 hb2'; go_wp2_with fail
       refine (hN.out _).mono ?_
       rintro e w3 ⟨rfl,hb3⟩
       have hb3':=Below.next hB2.out hB2.out.size hb3; have hK3:=Hj (hK2.out.below hb3); have hB3:=Hj hb3'; clear hb3 hb3'; have f0:=hK3.out.cell 0; have f1:=hK3.out.cell 1; have g0:=hK3.out.frozen 0; have g1:=hK3.out.frozen 1; go_wp2; exact ret_blk rfl rfl rfl (hK3.out.two (.string ByteArray.empty) (.string ByteArray.empty)) Tryz.underlying26 rfl (by kernel_rfl) ⟨hR.out,(hB3.out.setCell (p:=⟨w.heap.size,0,none⟩) (Nat.le_refl _) _).setCell (p:=⟨w.heap.size,1,none⟩) (Nat.le_refl _) _⟩
end Go.Proofs.YtjffffpfejmoiaaGreatDoor
namespace Go.Proofs.YtjffffpfejmoiaaGreatDoor
open Go.RowKit Syn Fr Hd Ck
namespace Hd
def hdsE : List (List UInt8) → Int
 | [] => 0
 | l :: r => if hdE l = 0 then hdsE r else hdE l
theorem hdsE_drop : ∀ {L : List (List UInt8)} {k : Nat},(L.take k).all (fun l => decide (hdE l = 0)) = true → hdsE L = hdsE (L.drop k)
 | _,0,_ => rfl
 | [],k + 1,_ => rfl
 | l :: r,k + 1,h => by
  rw [List.take_succ_cons,List.all_cons,Bool.and_eq_true,decide_eq_true_eq] at h
  rw [hdsE,if_pos h.1,hdsE_drop h.2,List.drop_succ_cons]
def HdsR (w : World) (L : List (List UInt8)) (e : Ending) (w' : World) : Prop :=
 ((hdsE L ≠ 0 ∧ e = .returned (.tuple #[.slice none 0 0,.iface 57 (.int .i64 (hdsE L))])) ∨ (hdsE L = 0 ∧ ∃ o,e = .returned (.tuple #[o,.nilIface]) ∧ Own w' w.heap.size 26 2 o (L.map hdV).length (prs (L.map hdV)))) ∧ Below w.heap.size w w'
theorem HdsR.bad {w w' : World} {L : List (List UInt8)} {n : Int} (h : hdsE L = n) (h0 : n ≠ 0) (hb : Below w.heap.size w w') : HdsR w L (.returned (.tuple #[.slice none 0 0,.iface 57 (.int .i64 n)])) w' :=
 ⟨.inl ⟨by rw [h]; exact h0,by rw [h]⟩,hb⟩
theorem HdsR.good {w w' : World} {L : List (List UInt8)} {o : Value} (h : hdsE L = 0) (ho : Own w' w.heap.size 26 2 o (L.map hdV).length (prs (L.map hdV))) (hb : Below w.heap.size w w') : HdsR w L (.returned (.tuple #[o,.nilIface])) w' :=
 ⟨.inr ⟨h,o,rfl,ho⟩,hb⟩
end Hd
set_option maxRecDepth 100000 in
set_option maxHeartbeats 8000000 in
theorem headers_any (L : List (List UInt8)) (v : Value) (w : World) (hR : Rd w 1 v L.length (strs L)) (hs : ∀ l ∈ L,l.length ≤ 1000000) (hm : L.length ≤ 1000) :
  Calls Tryz.prog 78 #[v] w (HdsR w L):=by
 obtain ⟨A,cap,rfl,hcap,-,-⟩:=id hR; replace hR:=Hj hR; replace hs:=Hj hs; go_enter Tryz.func78,Tryz.ntmps78
 go_wp2; go_loopw [4,11] (fun o i wr => ∃ k : Nat,i = .int .i64 (k : Int) ∧ k ≤ L.length ∧ Hid ((L.take k).all (fun l => decide (hdE l = 0)) = true) ∧ Hid (Own wr w.heap.size 26 2 o k (prs ((L.take k).map hdV))) ∧ Hid (Below w.heap.size w wr)) (fun _ i _ => L.length - (intOf i).toNat)
 case atStart => exact ⟨0,rfl,by omega,Hj rfl,Hj (own_nil _ _ _ _),Hj (Below.refl _ _)⟩
 case round =>
  obtain ⟨k,rfl,hk,hall,ho,hB⟩:=hrel
  have hBw:=hB.out.size; obtain ⟨Ao,co,rfl,-⟩:=Rd.own ho.out
  by_cases hlt : k < L.length
  ·obtain ⟨A',cap',e',-,-,r'⟩:=hR.out.below hB.out
   cases e'; obtain ⟨b1,o1,rfl,_,x1⟩:=r' (by omega)
   have d1 : wr.cell? ⟨b1,o1 + k,none⟩ = some (.string (str L[k])):=x1 _ _ (strs_at hlt)
   have hsh:=hs.out L[k] (List.getElem_mem hlt); have hdr:=hdsE_drop hall.out; rw [List.drop_eq_getElem_cons hlt,hdsE] at hdr
   have htk : (L.take (k + 1)).map hdV = (L.take k).map hdV ++ [hdV L[k]]:=by rw [List.take_succ_eq_append_getElem hlt,List.map_append]; rfl
   have hal2 : hdE L[k] = 0 → (L.take (k + 1)).all (fun l => decide (hdE l = 0)) = true:=fun h => by
    rw [List.take_succ_eq_append_getElem hlt,List.all_append,hall.out]; simp [h]
   clear x1 r'; have hH:=fun w => header_any (str L[k]) w (by rw [str_size]; exact hsh)
   simp only [bs_str] at hH
   generalize L[k] = l at *; have hpr:=Hj (prs_snoc ((L.take k).map hdV) (hdV l)); replace hsh:=Hj hsh; by_cases he : hdE l = 0
   ·rw [he,errV_zero] at hH
    have hal3:=Hj (hal2 he); replace hH:=Hj hH; replace he:=Hj he; replace htk:=Hj htk; clear hdr hal2; generalize str l = sl at *; generalize hdV l = p at *; obtain ⟨n,vv⟩:=p
    go_wp2_with fail
    refine (hH.out _).mono ?_
    rintro e w2 ⟨rfl,hb2⟩
    have hB2':=Below.next hB.out hBw hb2; have ho2:=Hj (own_below (own_below ho.out hb2) ((Below.refl w2.heap.size w2).alloc (Nat.le_refl _) (.cells #[.string (str n),.string (str vv)] 26))); have hB3:=hB2'.alloc hB2'.size (.cells #[.string (str n),.string (str vv)] 26); have hBs3:=hB3.size; clear hb2 hB2'; go_upto_region 8 with (fail)
    have hK3:=Blk.new w2 26 #[.string (str n),.string (str vv)]; generalize w2.alloc (.cells #[.string (str n),.string (str vv)] 26) = w3 at *; have f0:=hK3.cell 0; have f1:=hK3.cell 1; replace hB3:=Hj hB3; replace hK3:=Hj hK3; go_wp2_with (at_builtin; go_loud (refine push_pair 28 26 Tryz.underlying28 infoCF _ _ rfl rfl rfl ho2.out rfl rfl rfl (by omega) hBs3 ?_); intro v7 w7 ho7 hb7; have hB7:=Hj (hB3.out.trans hb7); replace ho7:=Hj ho7; clear hb7)
    go_roundw
    case rel => exact ⟨k + 1,by go_num,by omega,hal3,Hj (by rw [htk.out,hpr.out]; exact ho7.out),hB7⟩
    case measure => simp only [intOf]; omega
   ·rw [if_neg he] at hdr
    rw [herr_ne he] at hH
    have hbad:=Hj (fun (w' : World) (hb : Below w.heap.size w w') => HdsR.bad hdr he hb); replace hH:=Hj hH; replace he:=Hj he; clear hdr hal2 htk hpr; generalize str l = sl at *; generalize hdV l = p at *; generalize hdE l = ne at *; obtain ⟨n,vv⟩:=p
    go_wp2_with fail
    refine (hH.out _).mono ?_
    rintro e w2 ⟨rfl,hb2⟩
    have hB2':=Below.next hB.out hBw hb2; have hB3:=Hj (hB2'.alloc hB2'.size (.cells #[.string (str n),.string (str vv)] 26)); clear hb2 hB2'; go_wp2; go_ret2
    exact hbad.out _ hB3.out
  ·obtain rfl : k = L.length:=by omega
   rw [List.take_length] at ho hall
   have hz:=Hj (show hdsE L = 0 by
    have:=hdsE_drop (L:=L) (k:=L.length) (by rw [List.take_length]; exact hall.out)
    rw [this,List.drop_length]; rfl)
   have hlm : (L.map hdV).length = L.length:=List.length_map ..
   replace hlm:=Hj hlm; go_wp2; go_ret2
   exact HdsR.good hz.out (by rw [hlm.out]; exact ho.out) hB.out
end Go.Proofs.YtjffffpfejmoiaaGreatDoor
namespace Go.Proofs.YtjffffpfejmoiaaGreatDoor
open Go.RowKit Syn Hd
namespace Hd
def dgt (c : UInt8) : Bool:=decide (48 ≤ c.toNat) && decide (c.toNat ≤ 57)
def dval (l : List UInt8) : Nat:=l.foldl (fun n c => 10 * n + (c.toNat - 48)) 0
def stD (l : List UInt8) : List UInt8:=l.takeWhile (· != 32)
def stR (l : List UInt8) : List UInt8:=(l.dropWhile (· != 32)).drop 1
def stB (l : List UInt8) : Bool:=((decide ((stD l).length = 3) && (stD l).all dgt) && cln (stR l)) && (decide (100 ≤ dval (stD l)) && decide (dval (stD l) ≤ 599))
def stV (l : List UInt8) : Int:=(dval (stD l) : Int)
theorem dval_snoc (l : List UInt8) (c : UInt8) : dval (l ++ [c]) = 10 * dval l + (c.toNat - 48):=by unfold dval; rw [List.foldl_append]; rfl
def StR (l : List UInt8) (w : World) (e : Ending) (w' : World) : Prop:=∃ n : Int,e = .returned (.tuple #[.int .i64 n,.bool (stB l)]) ∧ (stB l = true → n = stV l) ∧ ∃ k,w' = w.drewN k
theorem StR.no {l : List UInt8} {w w' : World} {n : Int} (h : stB l = false) (hw : ∃ k,w' = w.drewN k) : StR l w (.returned (.tuple #[.int .i64 n,.bool false])) w':=⟨n,by rw [h],by rw [h]; exact fun h => absurd h (by decide),hw⟩
theorem StR.end {l : List UInt8} {w w' : World} {n : Nat} {b : Bool} (h : stB l = b) (hn : dval (stD l) = n) (hw : ∃ k,w' = w.drewN k) : StR l w (.returned (.tuple #[.int .i64 (n : Int),.bool b])) w':=⟨n,by rw [h],fun _ => by unfold stV; rw [hn],hw⟩
end Hd
set_option maxRecDepth 100000 in
set_option maxHeartbeats 8000000 in
theorem status_any (s : ByteArray) (w : World) (hs : s.size ≤ 1000000) : Calls Tryz.prog 77 #[.string s] w (StR (bs s) w):=by
 have hn:=bs_length s; have hC:=Hj (fun w => cut_any s 32 w (by unfold maxLen; omega))
 unfold cutV at hC
 have hB : stB (bs s) = (((decide ((stD (bs s)).length = 3) && (stD (bs s)).all dgt) && cln (stR (bs s))) && (decide (100 ≤ dval (stD (bs s))) && decide (dval (stD (bs s)) ≤ 599))):=rfl
 have l2 : (stR (bs s)).length ≤ 1000000:=by
  have:=(List.dropWhile_suffix (p:=(· != 32)) (l:=bs s)).length_le
  unfold stR; rw [List.length_drop]; omega
 have l1 : (stD (bs s)).length ≤ 1000000:=by
  have:=(List.takeWhile_prefix (p:=(· != 32)) (l:=bs s)).length_le
  unfold stD; omega
 have hmore : ((bs s).dropWhile (· != 32)).isEmpty = true → cln (stR (bs s)) = true:=fun h => by
  unfold stR; rw [List.isEmpty_iff.1 h]; rfl
 have hno:=fun (w' : World) (n : Int) (h : stB (bs s) = false) (hw : ∃ k,w' = w.drewN k) => StR.no (n:=n) h hw
 have hyes:=fun (w' : World) (n : Nat) (b : Bool) (h : stB (bs s) = b) (h2 : dval (bs (str (stD (bs s)))) = n) (hw : ∃ k,w' = w.drewN k) => StR.end (n:=n) h (by rw [bs_str] at h2; exact h2) hw
 rw [show (bs s).takeWhile (· != 32) = stD (bs s) from rfl,show ((bs s).dropWhile (· != 32)).drop 1 = stR (bs s) from rfl] at hC
 have eD : bs (str (stD (bs s))) = stD (bs s):=bs_str _
 have eR : bs (str (stR (bs s))) = stR (bs s):=bs_str _
 have zD:=str_size (stD (bs s)); have zR:=str_size (stR (bs s)); rw [← eD,← eR] at hB
 rw [← eR] at hmore
 rw [bs_length] at hB
 generalize stB (bs s) = stb at *; generalize str (stD (bs s)) = sd at *; generalize str (stR (bs s)) = sr at *; generalize ((bs s).dropWhile (· != 32)).isEmpty = em at *; replace hno:=Hj hno; replace hyes:=Hj hyes; replace hmore:=Hj hmore; have hdl : sd.size ≤ 1000000:=by omega
 have hrl : sr.size ≤ 1000000:=by omega
 clear eD eR zD zR l1 l2; go_enter Tryz.func77,Tryz.ntmps77
 go_wp2_with fail
 refine (hC.out _).mono ?_
 rintro e w1 ⟨rfl,n1,rfl⟩
 by_cases h3 : sd.size = 3
 ·rw [decide_eq_true h3] at hB
  replace hB:=Hj hB; go_wp2; go_loop [7,8,21] (fun n _ i => ∃ k m : Nat,i = .int .i64 (k : Int) ∧ k ≤ 3 ∧ n = .int .i64 (m : Int) ∧ m ≤ 1000 ∧ Hid (m + 1 ≤ 10 ^ k) ∧ Hid (m = dval ((bs sd).take k)) ∧ Hid (((bs sd).take k).all dgt = true)) (fun _ _ i => 3 - (intOf i).toNat)
  case atStart => exact ⟨0,0,rfl,by omega,rfl,by omega,Hj (by decide),Hj rfl,Hj rfl⟩
  case round =>
   obtain ⟨k,m,rfl,hk,rfl,hm,hmp,hmv,hall⟩:=hrel
   by_cases hlt : k < 3
   ·have hks : k < sd.size:=by omega
    have hm9 : m ≤ 99:=by
     have h1:=hmp.out; have h2 : 10 ^ k ≤ 10 ^ 2:=Nat.pow_le_pow_right (by decide) (by omega)
     omega
    have htk:=take_at sd k hks; have key : sd[k].toNat < 48 ∨ 57 < sd[k].toNat ∨ (48 ≤ sd[k].toNat ∧ sd[k].toNat ≤ 57):=by omega
    have no : dgt sd[k] = false → stb = false:=fun h => by rw [hB.out,all_fail hks h]; rfl
    rcases key with h | h | ⟨h,h'⟩
    ·have e:=Hj (hno.out (w.drewN n1) 0 (no (by unfold dgt; simp; omega)) ⟨n1,rfl⟩)
     clear no htk; go_wp2; go_ret2
     exact e.out
    ·have e:=Hj (hno.out (w.drewN n1) 0 (no (by unfold dgt; simp; omega)) ⟨n1,rfl⟩)
     have h2 : 48 ≤ sd[k].toNat:=by omega
     clear no htk; go_wp2; go_ret2
     exact e.out
    ·have e:=Hj (all_step (p:=dgt) hks hall.out (by unfold dgt; simp; omega))
     obtain ⟨d,hd⟩ : ∃ d,sd[k].toNat = 48 + d:=⟨sd[k].toNat - 48,by omega⟩
     have hd9 : d ≤ 9:=by omega
     have hv2:=Hj (show 10 * m + d = dval ((bs sd).take (k + 1)) by rw [htk,dval_snoc,← hmv.out,hd]; omega)
     have hp2:=Hj (show 10 * m + d + 1 ≤ 10 ^ (k + 1) by rw [Nat.pow_succ]; have:=hmp.out; omega)
     clear no htk; go_wp2; go_round
     case rel => exact ⟨k + 1,10 * m + d,by go_num,by omega,by go_num,by omega,hp2,hv2,e⟩
     case measure => simp only [intOf]; omega
   ·obtain rfl : k = 3:=by omega
    have hme:=hmv.out; have hal:=hall.out; rw [← h3] at hme hal
    rw [take_all] at hme hal
    have hB2:=hB.out; rw [hal,← hme] at hB2
    replace hB:=Hj hB2; replace hyes:=Hj (fun b h => hyes.out (w.drewN n1) m b h hme.symm ⟨n1,rfl⟩); clear hmp hmv hall hal hB2; replace hme:=Hj hme; cases em with
    | true =>
     have hcl:=hmore.out rfl; have hB3:=hB.out; rw [hcl] at hB3
     clear hB; by_cases v1 : 100 ≤ m
     ·rw [decide_eq_true v1] at hB3
      have hF:=Hj (hyes.out (decide ((m : Int) ≤ 599)) (by rw [hB3]; exact decide_eq_decide.2 (by omega)))
      replace hB3:=Hj hB3; replace hcl:=Hj hcl; go_wp2; go_ret2
      exact hF.out
     ·rw [decide_eq_false v1] at hB3
      have hF:=Hj (hyes.out false (by rw [hB3]; rfl))
      replace hB3:=Hj hB3; replace hcl:=Hj hcl; go_wp2; go_ret2
      exact hF.out
    | false =>
     go_wp2; go_loop [9,46] (fun _ i => ∃ j : Nat,i = .int .i64 (j : Int) ∧ j ≤ sr.size ∧ Hid (((bs sr).take j).all (fun c => !ctl c) = true)) (fun _ i => sr.size - (intOf i).toNat)
     case atStart => exact ⟨0,rfl,by omega,Hj rfl⟩
     case round =>
      obtain ⟨j,rfl,hj,ha⟩:=hrel
      by_cases hjl : j < sr.size
      ·have key : sr[j].toNat < 32 ∧ sr[j].toNat ≠ 9 ∨ sr[j].toNat = 9 ∨ sr[j].toNat = 127 ∨ (32 ≤ sr[j].toNat ∧ sr[j].toNat ≠ 127):=by omega
       have no : ctlN sr[j].toNat = false → Hid (((bs sr).take (j + 1)).all (fun c => !ctl c) = true):=fun ht => all_step (p:=fun c => !ctl c) hjl ha.out (by show (!ctlN sr[j].toNat) = true; rw [ht]; rfl)
       have yes : ctlN sr[j].toNat = true → Hid (StR (bs s) w (.returned (.tuple #[.int .i64 0,.bool false])) (w.drewN n1)):=fun ht => Hj (hno.out (w.drewN n1) 0 (by rw [hB.out,cln_fail hjl ht]; simp) ⟨n1,rfl⟩)
       rcases key with h | h | h | h
       ·have e:=yes (by unfold ctlN; simp [h.1,h.2])
        have h0:=h.1; have h1 : ((sr[j].toNat : Int) != 9) = true:=by rw [bne,show ((sr[j].toNat : Int) == 9) = false from beq_cast_false h.2]; rfl
        clear no yes; replace h:=Hj h; go_wp2; go_ret2
        exact e.out
       ·have e:=no (by rw [h]; rfl)
        have h1 : ((sr[j].toNat : Int) != 9) = false:=by rw [h]; rfl
        have h2 : ((sr[j].toNat : Int) == 127) = false:=beq_cast_false (show sr[j].toNat ≠ 127 by omega)
        have h3' : sr[j].toNat < 32:=by omega
        replace h:=Hj h; clear no yes; go_wp2; go_round
        case rel => exact ⟨j + 1,by go_num,by omega,e⟩
        case measure => simp [intOf]; omega
       ·have e:=yes (by rw [h]; rfl)
        have h2 : ((sr[j].toNat : Int) == 127) = true:=beq_cast_true h
        have h3' : ¬ sr[j].toNat < 32:=by omega
        replace h:=Hj h; clear no yes; go_wp2; go_ret2
        exact e.out
       ·have e:=no (by unfold ctlN; simp; omega)
        have h0:=h.1; have h2 : ((sr[j].toNat : Int) == 127) = false:=beq_cast_false h.2
        replace h:=Hj h; clear no yes; go_wp2; go_round
        case rel => exact ⟨j + 1,by go_num,by omega,e⟩
        case measure => simp [intOf]; omega
      ·obtain rfl : j = sr.size:=by omega
       have hcl : cln (bs sr) = true:=all_done ha.out
       have hB3:=hB.out; rw [hcl] at hB3
       clear hB; by_cases v1 : 100 ≤ m
       ·rw [decide_eq_true v1] at hB3
        have hF:=Hj (hyes.out (decide ((m : Int) ≤ 599)) (by rw [hB3]; exact decide_eq_decide.2 (by omega)))
        replace hB3:=Hj hB3; replace hcl:=Hj hcl; go_wp2; go_ret2
        exact hF.out
       ·rw [decide_eq_false v1] at hB3
        have hF:=Hj (hyes.out false (by rw [hB3]; rfl))
        replace hB3:=Hj hB3; replace hcl:=Hj hcl; go_wp2; go_ret2
        exact hF.out
 ·rw [decide_eq_false h3] at hB
  have e:=Hj (hno.out (w.drewN n1) 0 (by rw [hB]; rfl) ⟨n1,rfl⟩)
  have q1 : ((sd.size : Int) != 3) = true:=by rw [bne,show ((sd.size : Int) == 3) = false from beq_cast_false h3]; rfl
  replace h3:=Hj h3; replace hB:=Hj hB; go_wp2; go_ret2
  exact e.out
end Go.Proofs.YtjffffpfejmoiaaGreatDoor
namespace Go.Proofs.YtjffffpfejmoiaaGreatDoor
open Go.RowKit Syn Fr Hd Ck
theorem results_cell_tmp2 {fn : Func} {p u u2 : Tmp} {ty : TypeId} (h : fn.results = #[.cell p ty,.tmp u,.tmp u2]) (tmps : Array Value) (P : Program) (w : World) :
  (results fn tmps).run P w =
   ((asAddr (tmps.getD p undef)).run P w).andThen fun a w₁ => ((loadVar ty a).run P w₁).andThen fun v w₂ => .ok (.tuple #[v,tmps.getD u undef,tmps.getD u2 undef]) w₂:=by
 simp only [results,h]
 simp [Sem.run_bind,Result.andThen]
theorem ret_blk3 {P : Program} {fn : Func} {p u u2 : Tmp} {ty t : TypeId} {R : Ending → World → Prop} {a : Act} {w : World} {g : Nat} {cs : Array Value} {d : TypeDesc} (h : fn.results = #[.cell p ty,.tmp u,.tmp u2])
  (hd0 : a.defers = []) (hp : a.tmps.getD p undef = .pointer (some ⟨g,0,none⟩)) (hb : Blk w g t cs) (hu : P.underlying ty = some d) (hd : (match d with | .struct _ | .array _ _ => true | _ => false) = true)
  (hi : (P.info? ty).map (·.size) = some cs.size) (hR : R (.returned (.tuple #[.agg cs,a.tmps.getD u undef,a.tmps.getD u2 undef])) w) : bodyPost P fn R .ret a w:=by
 refine bodyPost_ret ?_ hd0 hR
 rw [results_cell_tmp2 h,hp]
 simp [asAddr,Result.andThen,run_loadVar_row w g t ty cs (0,0) d hb hu hd hi]
namespace Hd
theorem splitK_most (sep : List UInt8) : ∀ (k : Nat) (s : List UInt8),∀ x ∈ Lib.splitK sep 0 k s,x.length ≤ s.length
 | 0,s,x,h => by rw [Lib.splitK,List.mem_singleton] at h; rw [h]; exact Nat.le_refl _
 | k + 1,s,x,h => by
  rw [Lib.splitK] at h
  split at h
  ·rw [List.mem_singleton] at h; rw [h]; exact Nat.le_refl _
  ·rcases List.mem_cons.1 h with rfl | h
   ·rw [List.length_take]; omega
   ·have:=splitK_most sep k _ x h; rw [List.length_drop] at this; omega
theorem lnL_most (b : List UInt8) : ∀ x ∈ lnL b,x.length ≤ b.length:=fun x hx => by
 have:=splitK_most [13,10] _ _ x hx
 rw [List.length_take] at this; omega
theorem spl_ne (l : List UInt8) : ∃ x r,spl l = x :: r:=by
 unfold spl
 cases Lib.count l [13,10] with
 | zero => exact ⟨l,[],rfl⟩
 | succ k =>
  rw [Lib.splitK]
  split
  ·exact ⟨l,[],rfl⟩
  ·exact ⟨_,_,rfl⟩
theorem lnE_few {b : List UInt8} (h : lnE b = 0) : (lnL b).length ≤ 65:=by
 unfold lnE at h
 split at h
 ·cases h
 ·split at h
  ·cases h
  ·split at h
   ·cases h
   ·split at h
    ·cases h
    ·omega
def verB : List UInt8:=[72,84,84,80,47,49,46,49]
def rrX (L : List (List UInt8)) : Int:=if stD (L.headD []) = verB then (if stB (stR (L.headD [])) = false then 2 else hdsE L.tail) else 28
theorem rrX_cons (l : List UInt8) (r : List (List UInt8)) : rrX (l :: r) = if stD l = verB then (if stB (stR l) = false then 2 else hdsE r) else 28:=rfl
def rrE (b : List UInt8) : Int:=if lnE b = 0 then rrX (lnL b) else lnE b
def rrS (b : List UInt8) : Int:=stV (stR ((lnL b).headD []))
def rrL (b : List UInt8) : List (List UInt8 × List UInt8):=(lnL b).tail.map hdV
def RrO (w : World) (b : List UInt8) (e : Ending) (w' : World) : Prop :=
 ((rrE b ≠ 0 ∧ e = .returned (.tuple #[.agg #[.int .i64 0,.slice none 0 0],.int .i64 0,.iface 57 (.int .i64 (rrE b))])) ∨ (rrE b = 0 ∧ ∃ o,e = .returned (.tuple #[.agg #[.int .i64 (rrS b),o],.int .i64 (endF b),.nilIface]) ∧ Own w' w.heap.size 26 2 o (rrL b).length (prs (rrL b)))) ∧ Below w.heap.size w w'
theorem RrO.bad {w : World} {b : List UInt8} {n : Int} (h : rrE b = n) (h0 : n ≠ 0) (w' : World) (hb : Below w.heap.size w w') : RrO w b (.returned (.tuple #[.agg #[.int .i64 0,.slice none 0 0],.int .i64 0,.iface 57 (.int .i64 n)])) w' :=
 ⟨.inl ⟨by rw [h]; exact h0,by rw [h]⟩,hb⟩
theorem RrO.good {w w' : World} {b : List UInt8} {o : Value} (h : rrE b = 0) (ho : Own w' w.heap.size 26 2 o (rrL b).length (prs (rrL b))) (hb : Below w.heap.size w w') : RrO w b (.returned (.tuple #[.agg #[.int .i64 (rrS b),o],.int .i64 (endF b),.nilIface])) w' :=
 ⟨.inr ⟨h,o,rfl,ho⟩,hb⟩
def RrR (w : World) (b : List UInt8) (e : Ending) (w' : World) : Prop :=
 ((rrE b ≠ 0 ∧ e = .returned (.tuple #[.agg #[.int .i64 0,.slice none 0 0],.int .i64 0,.iface 57 (.int .i64 (rrE b))])) ∨ (rrE b = 0 ∧ ∃ o,e = .returned (.tuple #[.agg #[.int .i64 (rrS b),o],.int .i64 (endF b),.nilIface]) ∧ Rd w' 2 o (rrL b).length (prs (rrL b)))) ∧ Below w.heap.size w w'
theorem RrO.rd {w w' : World} {b : List UInt8} {e : Ending} (h : RrO w b e w') : RrR w b e w' :=
 ⟨h.1.elim .inl (fun ⟨h0,o,h1,h2⟩ => .inr ⟨h0,o,h1,Rd.own h2⟩),h.2⟩
theorem rd_tail {w : World} {b1 o1 c : Nat} {x : List UInt8} {r : List (List UInt8)} (h : Rd w 1 (.slice (some ⟨b1,o1,none⟩) (x :: r).length c) (x :: r).length (strs (x :: r))) : Rd w 1 (.slice (some ⟨b1,o1 + 1,none⟩) r.length (c - 1)) r.length (strs r):=by
 obtain ⟨A',c',e,hc,hl,hr⟩:=h
 cases e; rw [List.length_cons] at hc hr
 refine ⟨_,_,rfl,by omega,by unfold strs; rw [List.length_map,Nat.mul_one],fun hn => ?_⟩
 obtain ⟨b,o,e,hlt,hx⟩:=hr (by omega)
 cases e; refine ⟨b1,o1 + 1,rfl,hlt,fun j u hu => ?_⟩
 have:=hx (j + 1) u (by simpa [strs] using hu)
 rw [show o1 + 1 + j = o1 + (j + 1) by omega]
 exact this
theorem rd_none0 (w : World) (a : Addr) : Rd w 1 (.slice (some a) 0 0) 0 []:=⟨some a,0,rfl,by omega,rfl,fun h => absurd h (by decide)⟩
end Hd
set_option maxRecDepth 100000 in
set_option maxHeartbeats 16000000 in
theorem rdresp_own (b : List UInt8) (A : Option Addr) (cap : Nat) (w : World) (hR : Rd w 1 (.slice A b.length cap) b.length (u8s b)) (hb : b.length ≤ 1000000) (hc0 : A = none → cap = 0) (hM : MaxL w) :
  Calls Tryz.prog 54 #[.slice A b.length cap] w (RrO w b):=by
 have hLn:=Hj (fun w' (hw : Below w.heap.size w w') => lines_any b A cap w' (hR.below hw) hb hc0 (hM.below hw)); unfold LnR at hLn
 have hK0:=Hj (Blk.new w 75 #[.int .i64 0,.slice none 0 0]); have hB0:=Hj ((Below.refl w.heap.size w).alloc (Nat.le_refl _) (.cells #[.int .i64 0,.slice none 0 0] 75)); have hE : rrE b = if lnE b = 0 then rrX (lnL b) else lnE b:=rfl
 replace hc0:=Hj hc0; replace hM:=Hj hM; replace hR:=Hj hR; by_cases k1 : lnE b = 0
 ·rw [if_pos k1] at hE
  have hfew:=lnE_few k1; have hmost:=lnL_most b; have hS : rrS b = stV (stR ((lnL b).headD [])):=rfl
  have hLL : rrL b = (lnL b).tail.map hdV:=rfl
  obtain ⟨l0,Lr,hL⟩:=spl_ne (b.take ((endF b).toNat - 4))
  replace hL : lnL b = l0 :: Lr:=hL
  rw [hL] at hE hfew hmost hS hLL
  rw [rrX_cons] at hE
  simp only [List.headD_cons,List.tail_cons] at hS hLL
  rw [List.length_cons] at hfew
  have hl0:=hmost l0 (by simp); have hC:=Hj (fun w => cut_any (str l0) 32 w (by rw [str_size]; unfold maxLen; omega))
  unfold cutV at hC
  rw [bs_str,show l0.takeWhile (· != 32) = stD l0 from rfl,show (l0.dropWhile (· != 32)).drop 1 = stR l0 from rfl] at hC
  have lr : (stR l0).length ≤ l0.length:=by
   have:=(List.dropWhile_suffix (p:=(· != 32)) (l:=l0)).length_le
   unfold stR; rw [List.length_drop]; omega
  have hSt:=fun w => status_any (str (stR l0)) w (by rw [str_size]; omega)
  unfold StR at hSt
  simp only [bs_str] at hSt
  replace hSt:=Hj hSt; have hHd:=Hj (fun v w h => headers_any Lr v w h (fun l hl => by have:=hmost l (by simp [hl]); omega) (by omega))
  unfold HdsR at hHd
  have hv : ((str (stD l0)).toList == [72,84,84,80,47,49,46,49]) = decide (stD l0 = verB):=by rw [lit_beq,bs_str]; rfl
  replace k1:=Hj k1; replace hL:=Hj hL; replace hmost:=Hj hmost; by_cases k2 : stD l0 = verB
  ·rw [decide_eq_true k2] at hv
   rw [if_pos k2] at hE
   replace k2:=Hj k2; cases k3 : stB (stR l0) with
   | false =>
    rw [if_pos k3] at hE
    have hR:=Hj (RrO.bad (w:=w) hE (by decide)); rw [k3] at hSt
    replace hE:=Hj hE; replace k3:=Hj k3; generalize str (stD l0) = sd at *; generalize str (stR l0) = sr at *; go_enter Tryz.func54,Tryz.ntmps54
    go_wp2_with fail
    refine (hLn.out _ hB0.out).mono ?_
    rintro e w1 ⟨h1,hb1⟩
    obtain ⟨o1,rfl,hr1⟩ : ∃ o,e = .returned (.tuple #[o,.int .i64 (endF b),.nilIface]) ∧ Rd w1 1 o (l0 :: Lr).length (strs (l0 :: Lr)):=by
     rcases h1 with ⟨h1,-⟩ | ⟨-,o,h1,h2⟩
     ·exact absurd k1.out h1
     ·rw [hL.out] at h2; exact ⟨o,h1,h2⟩
    have hK1:=Hj (hK0.out.below hb1); have hB1:=Hj (Below.next hB0.out hB0.out.size hb1); clear hb1 h1; obtain ⟨A1,c1,rfl,hc1,-,r1⟩:=id hr1; obtain ⟨b1,off1,rfl,hl1,x1⟩:=r1 (by simp)
    have d1 : w1.cell? ⟨b1,off1 + 0,none⟩ = some (.string (str l0)):=x1 0 _ rfl
    rw [Nat.add_zero] at d1
    clear x1 r1; replace hr1:=Hj hr1; go_wp2_with fail
    refine (hC.out _).mono ?_
    rintro e w2 ⟨rfl,n2,rfl⟩
    have hK2:=Hj (hK1.out.drewN n2); have hB2:=Hj (below_drewN hB1.out n2); clear d1; go_wp2_with fail
    refine (hSt.out _).mono ?_
    rintro e w3 ⟨sn,rfl,hsn,n3,rfl⟩
    have hK3:=Hj (hK1.out.drewN (n2 + n3)); have hB3:=Hj (below_drewN hB1.out (n2 + n3)); have f0:=hK3.out.cell 0; have f1:=hK3.out.cell 1; have g0:=hK3.out.frozen 0; have g1:=hK3.out.frozen 1; go_wp2; exact ret_blk3 rfl rfl rfl (hK3.out.two (.int .i64 0) (.slice none 0 0)) Tryz.underlying75 rfl (by kernel_rfl) (hR.out _ ((hB3.out.setCell (p:=⟨w.heap.size,0,none⟩) (Nat.le_refl _) _).setCell (p:=⟨w.heap.size,1,none⟩) (Nat.le_refl _) _))
   | true =>
    rw [if_neg (by rw [k3]; decide)] at hE
    rw [k3] at hSt
    replace k3:=Hj k3; generalize str (stD l0) = sd at *; generalize str (stR l0) = sr at *; by_cases k4 : hdsE Lr = 0
    ·rw [k4] at hE
     replace hE:=Hj hE; replace k4:=Hj k4; replace hS:=Hj hS; replace hLL:=Hj hLL; go_enter Tryz.func54,Tryz.ntmps54
     go_wp2_with fail
     refine (hLn.out _ hB0.out).mono ?_
     rintro e w1 ⟨h1,hb1⟩
     obtain ⟨o1,rfl,hr1⟩ : ∃ o,e = .returned (.tuple #[o,.int .i64 (endF b),.nilIface]) ∧ Rd w1 1 o (l0 :: Lr).length (strs (l0 :: Lr)):=by
      rcases h1 with ⟨h1,-⟩ | ⟨-,o,h1,h2⟩
      ·exact absurd k1.out h1
      ·rw [hL.out] at h2; exact ⟨o,h1,h2⟩
     have hK1:=Hj (hK0.out.below hb1); have hB1:=Hj (Below.next hB0.out hB0.out.size hb1); clear hb1 h1; obtain ⟨A1,c1,rfl,hc1,-,r1⟩:=id hr1; obtain ⟨b1,off1,rfl,hl1,x1⟩:=r1 (by simp)
     have d1 : w1.cell? ⟨b1,off1 + 0,none⟩ = some (.string (str l0)):=x1 0 _ rfl
     rw [Nat.add_zero] at d1
     clear x1 r1; replace hr1:=Hj hr1; go_wp2_with fail
     refine (hC.out _).mono ?_
     rintro e w2 ⟨rfl,n2,rfl⟩
     have hK2:=Hj (hK1.out.drewN n2); have hB2:=Hj (below_drewN hB1.out n2); clear d1; go_wp2_with fail
     refine (hSt.out _).mono ?_
     rintro e w3 ⟨sn,rfl,hsn,n3,rfl⟩
     have hK3:=Hj (hK1.out.drewN (n2 + n3)); have hB3:=Hj (below_drewN hB1.out (n2 + n3))
     rw [List.length_cons] at hc1
     by_cases hcp : c1 = 1
     ·subst hcp
      obtain rfl : Lr = []:=by cases Lr with | nil => rfl | cons a r => simp at hc1
      have hr4:=Hj (rd_none0 (w1.drewN (n2 + n3)) ⟨b1,off1,none⟩); go_wp2_with fail
      refine (hHd.out _ _ hr4.out).mono ?_
      rintro e w4 ⟨h4,hb4⟩
      obtain ⟨o4,rfl,ho4⟩ : ∃ o,e = .returned (.tuple #[o,.nilIface]) ∧ Own w4 (w1.drewN (n2 + n3)).heap.size 26 2 o 0 (prs ([].map hdV)):=by
       rcases h4 with ⟨h4,-⟩ | ⟨-,o,h4,h5⟩
       ·exact absurd k4.out h4
       ·rw [List.length_map] at h5; exact ⟨o,h4,h5⟩
      have hb4' : Below w1.heap.size w1 w4:=⟨hb4.os,hb4.tape,hb4.output,hb4.size,hb4.block⟩
      have hK4:=hK1.out.below hb4'; have hB4:=Hj (Below.next hB1.out hB1.out.size hb4'); obtain ⟨A5,c5,rfl,-,-,-⟩:=Rd.own ho4
      have hlt5 : w.heap.size < (w1.drewN (n2 + n3)).heap.size:=hK1.out.lt
      have ho5:=own_far (own_far ho4 (p:=⟨w.heap.size,0,none⟩) hlt5 (.int .i64 (stV (stR l0)))) (p:=⟨w.heap.size,1,none⟩) hlt5 (.slice A5 0 c5); have hw:=RrO.good hE.out (o:=.slice A5 0 c5) (by rw [hLL.out,List.length_map]; exact ho5.base (Nat.le_of_lt hlt5)) ((hB4.out.setCell (p:=⟨w.heap.size,0,none⟩) (Nat.le_refl _) (.int .i64 (stV (stR l0)))).setCell (p:=⟨w.heap.size,1,none⟩) (Nat.le_refl _) (.slice A5 0 c5))
      rw [hS.out] at hw
      replace hw:=Hj hw; clear hb4 hb4' h4 ho4 ho5 hlt5; have f0:=hK4.cell 0; have f1:=hK4.cell 1; have g0:=hK4.frozen 0; have g1:=hK4.frozen 1; replace hK4:=Hj hK4; go_wp2; exact ret_blk3 rfl rfl rfl (hK4.out.two (.int .i64 (stV (stR l0))) (.slice A5 0 c5)) Tryz.underlying75 rfl (by kernel_rfl) hw.out
     ·have hr3:=rd_tail hr1.out
      have hc2 : Lr.length + 1 ≤ c1:=hc1
      obtain ⟨c,rfl⟩ : ∃ c,c1 = c + 2:=⟨c1 - 2,by omega⟩
      have hr4:=Hj (hr3.drewN (n2 + n3)); go_wp2_with fail
      refine (hHd.out _ _ hr4.out).mono ?_
      rintro e w4 ⟨h4,hb4⟩
      obtain ⟨o4,rfl,ho4⟩ : ∃ o,e = .returned (.tuple #[o,.nilIface]) ∧ Own w4 (w1.drewN (n2 + n3)).heap.size 26 2 o Lr.length (prs (Lr.map hdV)):=by
       rcases h4 with ⟨h4,-⟩ | ⟨-,o,h4,h5⟩
       ·exact absurd k4.out h4
       ·rw [List.length_map] at h5; exact ⟨o,h4,h5⟩
      have hb4' : Below w1.heap.size w1 w4:=⟨hb4.os,hb4.tape,hb4.output,hb4.size,hb4.block⟩
      have hK4:=hK1.out.below hb4'; have hB4:=Hj (Below.next hB1.out hB1.out.size hb4'); obtain ⟨A5,c5,rfl,-,-,-⟩:=Rd.own ho4
      have hlt5 : w.heap.size < (w1.drewN (n2 + n3)).heap.size:=hK1.out.lt
      have ho5:=own_far (own_far ho4 (p:=⟨w.heap.size,0,none⟩) hlt5 (.int .i64 (stV (stR l0)))) (p:=⟨w.heap.size,1,none⟩) hlt5 (.slice A5 Lr.length c5); have hw:=RrO.good hE.out (o:=.slice A5 Lr.length c5) (by rw [hLL.out,List.length_map]; exact ho5.base (Nat.le_of_lt hlt5)) ((hB4.out.setCell (p:=⟨w.heap.size,0,none⟩) (Nat.le_refl _) (.int .i64 (stV (stR l0)))).setCell (p:=⟨w.heap.size,1,none⟩) (Nat.le_refl _) (.slice A5 Lr.length c5))
      rw [hS.out] at hw
      replace hw:=Hj hw; clear hb4 hb4' h4 ho4 ho5 hlt5; have f0:=hK4.cell 0; have f1:=hK4.cell 1; have g0:=hK4.frozen 0; have g1:=hK4.frozen 1; replace hK4:=Hj hK4; go_wp2; exact ret_blk3 rfl rfl rfl (hK4.out.two (.int .i64 (stV (stR l0))) (.slice A5 Lr.length c5)) Tryz.underlying75 rfl (by kernel_rfl) hw.out
    ·have hR:=Hj (RrO.bad (w:=w) hE k4)
     replace hE:=Hj hE; replace k4:=Hj k4; go_enter Tryz.func54,Tryz.ntmps54
     go_wp2_with fail
     refine (hLn.out _ hB0.out).mono ?_
     rintro e w1 ⟨h1,hb1⟩
     obtain ⟨o1,rfl,hr1⟩ : ∃ o,e = .returned (.tuple #[o,.int .i64 (endF b),.nilIface]) ∧ Rd w1 1 o (l0 :: Lr).length (strs (l0 :: Lr)):=by
      rcases h1 with ⟨h1,-⟩ | ⟨-,o,h1,h2⟩
      ·exact absurd k1.out h1
      ·rw [hL.out] at h2; exact ⟨o,h1,h2⟩
     have hK1:=Hj (hK0.out.below hb1); have hB1:=Hj (Below.next hB0.out hB0.out.size hb1); clear hb1 h1; obtain ⟨A1,c1,rfl,hc1,-,r1⟩:=id hr1; obtain ⟨b1,off1,rfl,hl1,x1⟩:=r1 (by simp)
     have d1 : w1.cell? ⟨b1,off1 + 0,none⟩ = some (.string (str l0)):=x1 0 _ rfl
     rw [Nat.add_zero] at d1
     clear x1 r1; replace hr1:=Hj hr1; go_wp2_with fail
     refine (hC.out _).mono ?_
     rintro e w2 ⟨rfl,n2,rfl⟩
     have hK2:=Hj (hK1.out.drewN n2); have hB2:=Hj (below_drewN hB1.out n2); clear d1; go_wp2_with fail
     refine (hSt.out _).mono ?_
     rintro e w3 ⟨sn,rfl,hsn,n3,rfl⟩
     have hK3:=Hj (hK1.out.drewN (n2 + n3)); have hB3:=Hj (below_drewN hB1.out (n2 + n3))
     rw [List.length_cons] at hc1
     by_cases hcp : c1 = 1
     ·subst hcp
      obtain rfl : Lr = []:=by cases Lr with | nil => rfl | cons a r => simp at hc1
      exact absurd rfl k4.out
     ·have hr3:=rd_tail hr1.out
      have hc2 : Lr.length + 1 ≤ c1:=hc1
      obtain ⟨c,rfl⟩ : ∃ c,c1 = c + 2:=⟨c1 - 2,by omega⟩
      have hr4:=Hj (hr3.drewN (n2 + n3)); go_wp2_with fail
      refine (hHd.out _ _ hr4.out).mono ?_
      rintro e w4 ⟨h4,hb4⟩
      obtain rfl : e = .returned (.tuple #[.slice none 0 0,.iface 57 (.int .i64 (hdsE Lr))]):=by
       rcases h4 with ⟨-,h4⟩ | ⟨h4,-⟩
       ·exact h4
       ·exact absurd h4 k4.out
      have hb4' : Below w1.heap.size w1 w4:=⟨hb4.os,hb4.tape,hb4.output,hb4.size,hb4.block⟩
      have hK4:=Hj (hK1.out.below hb4'); have hB4:=Hj (Below.next hB1.out hB1.out.size hb4'); clear hb4 hb4' h4; generalize hdsE Lr = he at *; have f0:=hK4.out.cell 0; have f1:=hK4.out.cell 1; have g0:=hK4.out.frozen 0; have g1:=hK4.out.frozen 1; go_wp2; exact ret_blk3 rfl rfl rfl (hK4.out.two (.int .i64 0) (.slice none 0 0)) Tryz.underlying75 rfl (by kernel_rfl) (hR.out _ ((hB4.out.setCell (p:=⟨w.heap.size,0,none⟩) (Nat.le_refl _) _).setCell (p:=⟨w.heap.size,1,none⟩) (Nat.le_refl _) _))
  ·rw [decide_eq_false k2] at hv
   rw [if_neg k2] at hE
   have hR:=Hj (RrO.bad (w:=w) hE (by decide)); replace hE:=Hj hE; replace k2:=Hj k2; generalize str (stD l0) = sd at *; generalize str (stR l0) = sr at *; go_enter Tryz.func54,Tryz.ntmps54
   go_wp2_with fail
   refine (hLn.out _ hB0.out).mono ?_
   rintro e w1 ⟨h1,hb1⟩
   obtain ⟨o1,rfl,hr1⟩ : ∃ o,e = .returned (.tuple #[o,.int .i64 (endF b),.nilIface]) ∧ Rd w1 1 o (l0 :: Lr).length (strs (l0 :: Lr)):=by
    rcases h1 with ⟨h1,-⟩ | ⟨-,o,h1,h2⟩
    ·exact absurd k1.out h1
    ·rw [hL.out] at h2; exact ⟨o,h1,h2⟩
   have hK1:=Hj (hK0.out.below hb1); have hB1:=Hj (Below.next hB0.out hB0.out.size hb1); clear hb1 h1; obtain ⟨A1,c1,rfl,hc1,-,r1⟩:=id hr1; obtain ⟨b1,off1,rfl,hl1,x1⟩:=r1 (by simp)
   have d1 : w1.cell? ⟨b1,off1 + 0,none⟩ = some (.string (str l0)):=x1 0 _ rfl
   rw [Nat.add_zero] at d1
   clear x1 r1; replace hr1:=Hj hr1; go_wp2_with fail
   refine (hC.out _).mono ?_
   rintro e w2 ⟨rfl,n2,rfl⟩
   have hK2:=Hj (hK1.out.drewN n2); have hB2:=Hj (below_drewN hB1.out n2); clear d1; have f0:=hK2.out.cell 0; have f1:=hK2.out.cell 1; have g0:=hK2.out.frozen 0; have g1:=hK2.out.frozen 1; go_wp2; exact ret_blk3 rfl rfl rfl (hK2.out.two (.int .i64 0) (.slice none 0 0)) Tryz.underlying75 rfl (by kernel_rfl) (hR.out _ ((hB2.out.setCell (p:=⟨w.heap.size,0,none⟩) (Nat.le_refl _) _).setCell (p:=⟨w.heap.size,1,none⟩) (Nat.le_refl _) _))
 ·rw [if_neg k1] at hE
  have hR:=Hj (RrO.bad (w:=w) hE k1); replace hE:=Hj hE; replace k1:=Hj k1; go_enter Tryz.func54,Tryz.ntmps54
  go_wp2_with fail
  refine (hLn.out _ hB0.out).mono ?_
  rintro e w1 ⟨h1,hb1⟩
  obtain rfl : e = .returned (.tuple #[.slice none 0 0,.int .i64 0,.iface 57 (.int .i64 (lnE b))]):=by
   rcases h1 with ⟨-,h1⟩ | ⟨h1,-⟩
   ·exact h1
   ·exact absurd h1 k1.out
  have hK1:=hK0.out.below hb1; have hB1:=Hj (Below.next hB0.out hB0.out.size hb1); clear hb1 h1; generalize lnE b = le at *; have f0:=hK1.cell 0; have f1:=hK1.cell 1; have g0:=hK1.frozen 0; have g1:=hK1.frozen 1; go_wp2; exact ret_blk3 rfl rfl rfl (hK1.two (.int .i64 0) (.slice none 0 0)) Tryz.underlying75 rfl (by kernel_rfl) (hR.out _ ((hB1.out.setCell (p:=⟨w.heap.size,0,none⟩) (Nat.le_refl _) _).setCell (p:=⟨w.heap.size,1,none⟩) (Nat.le_refl _) _))
end Go.Proofs.YtjffffpfejmoiaaGreatDoor
namespace Go.Proofs.YtjffffpfejmoiaaGreatDoor
open Go.RowKit Syn Fr Hd Ck
namespace Hd
def rqF (l : List (List UInt8 × List UInt8)) : List (List UInt8 × List UInt8):=l.map (rep hostN ((hsX l).getD []))
def rlM (l : List UInt8) : List UInt8:=stD l
def rlT (l : List UInt8) : List UInt8:=stD (stR l)
def rlV (l : List UInt8) : List UInt8:=stR (stR l)
def rqX (L : List (List UInt8)) : Int :=
 if mthB (rlM (L.headD [])) = false then 26 else if tgtB (rlM (L.headD [])) (rlT (L.headD [])) = false then 27 else if rlV (L.headD []) = verB then (if hdsE L.tail = 0 then (if hsX (L.tail.map hdV) = none then 29 else 0) else hdsE L.tail) else 28
theorem rqX_cons (l : List UInt8) (r : List (List UInt8)) : rqX (l :: r) = if mthB (rlM l) = false then 26 else if tgtB (rlM l) (rlT l) = false then 27 else if rlV l = verB then (if hdsE r = 0 then (if hsX (r.map hdV) = none then 29 else 0) else hdsE r) else 28:=rfl
def rqE (b : List UInt8) : Int:=if lnE b = 0 then rqX (lnL b) else lnE b
def rqM (b : List UInt8) : List UInt8:=rlM ((lnL b).headD [])
def rqT (b : List UInt8) : List UInt8:=rlT ((lnL b).headD [])
def rqL (b : List UInt8) : List (List UInt8 × List UInt8):=rqF ((lnL b).tail.map hdV)
def RqO (w : World) (b : List UInt8) (e : Ending) (w' : World) : Prop :=
 ((rqE b ≠ 0 ∧ e = .returned (.tuple #[.agg #[.string ByteArray.empty,.string ByteArray.empty,.slice none 0 0],.int .i64 0,.iface 57 (.int .i64 (rqE b))])) ∨ (rqE b = 0 ∧ ∃ o,e = .returned (.tuple #[.agg #[.string (str (rqM b)),.string (str (rqT b)),o],.int .i64 (endF b),.nilIface]) ∧ Own w' w.heap.size 26 2 o (rqL b).length (prs (rqL b)))) ∧ Below w.heap.size w w'
theorem RqO.bad {w : World} {b : List UInt8} {n : Int} (h : rqE b = n) (h0 : n ≠ 0) (w' : World) (hb : Below w.heap.size w w') : RqO w b (.returned (.tuple #[.agg #[.string ByteArray.empty,.string ByteArray.empty,.slice none 0 0],.int .i64 0,.iface 57 (.int .i64 n)])) w' :=
 ⟨.inl ⟨by rw [h]; exact h0,by rw [h]⟩,hb⟩
theorem RqO.good {w w' : World} {b : List UInt8} {o : Value} (h : rqE b = 0) (ho : Own w' w.heap.size 26 2 o (rqL b).length (prs (rqL b))) (hb : Below w.heap.size w w') : RqO w b (.returned (.tuple #[.agg #[.string (str (rqM b)),.string (str (rqT b)),o],.int .i64 (endF b),.nilIface])) w' :=
 ⟨.inr ⟨h,o,rfl,ho⟩,hb⟩
def RqR (w : World) (b : List UInt8) (e : Ending) (w' : World) : Prop :=
 ((rqE b ≠ 0 ∧ e = .returned (.tuple #[.agg #[.string ByteArray.empty,.string ByteArray.empty,.slice none 0 0],.int .i64 0,.iface 57 (.int .i64 (rqE b))])) ∨ (rqE b = 0 ∧ ∃ o,e = .returned (.tuple #[.agg #[.string (str (rqM b)),.string (str (rqT b)),o],.int .i64 (endF b),.nilIface]) ∧ Rd w' 2 o (rqL b).length (prs (rqL b)))) ∧ Below w.heap.size w w'
theorem RqO.rd {w w' : World} {b : List UInt8} {e : Ending} (h : RqO w b e w') : RqR w b e w' :=
 ⟨h.1.elim .inl (fun ⟨h0,o,h1,h2⟩ => .inr ⟨h0,o,h1,Rd.own h2⟩),h.2⟩
theorem stD_len (l : List UInt8) : (stD l).length ≤ l.length:=(List.takeWhile_prefix (p:=(· != 32)) (l:=l)).length_le
theorem stR_len (l : List UInt8) : (stR l).length ≤ l.length:=by
 have:=(List.dropWhile_suffix (p:=(· != 32)) (l:=l)).length_le
 unfold stR; rw [List.length_drop]; omega
theorem hdV_len (l : List UInt8) : (hdV l).1.length ≤ l.length ∧ (hdV l).2.length ≤ l.length:=by
 unfold hdV
 split
 ·have h1 : (hdN l).length ≤ l.length:=(List.takeWhile_prefix (p:=(· != 58)) (l:=l)).length_le
  have h2 : (hdR l).length ≤ l.length:=by
   have:=(List.dropWhile_suffix (p:=(· != 58)) (l:=l)).length_le
   unfold hdR; rw [List.length_drop]; omega
  refine ⟨?_,?_⟩
  ·have : (nmV (hdN l)).length ≤ (hdN l).length:=by unfold nmV; split; rw [lower_length]; exact Nat.le_refl _; exact Nat.zero_le _
   exact Nat.le_trans this h1
  ·have : (vlV (hdR l)).length ≤ (hdR l).length:=by unfold vlV; split; exact trim_le _; exact Nat.zero_le _
   exact Nat.le_trans this h2
 ·exact ⟨Nat.zero_le _,Nat.zero_le _⟩
end Hd
set_option maxRecDepth 100000 in
set_option maxHeartbeats 32000000 in
theorem rdreq_own (b : List UInt8) (A : Option Addr) (cap : Nat) (w : World) (hR : Rd w 1 (.slice A b.length cap) b.length (u8s b)) (hb : b.length ≤ 1000000) (hc0 : A = none → cap = 0) (hM : MaxL w) :
  Calls Tryz.prog 55 #[.slice A b.length cap] w (RqO w b):=by
 have hLn:=Hj (fun w' (hw : Below w.heap.size w w') => lines_any b A cap w' (hR.below hw) hb hc0 (hM.below hw)); unfold LnR at hLn
 have hK0:=Hj (Blk.new w 30 #[.string ByteArray.empty,.string ByteArray.empty,.slice none 0 0]); have hB0:=Hj ((Below.refl w.heap.size w).alloc (Nat.le_refl _) (.cells #[.string ByteArray.empty,.string ByteArray.empty,.slice none 0 0] 30)); have hE : rqE b = if lnE b = 0 then rqX (lnL b) else lnE b:=rfl
 replace hc0:=Hj hc0; replace hM:=Hj hM; replace hR:=Hj hR; by_cases k1 : lnE b = 0
 ·rw [if_pos k1] at hE
  have hfew:=lnE_few k1; have hmost:=lnL_most b; have hSM : rqM b = rlM ((lnL b).headD []):=rfl
  have hST : rqT b = rlT ((lnL b).headD []):=rfl
  have hLL : rqL b = rqF ((lnL b).tail.map hdV):=rfl
  obtain ⟨l0,Lr,hL⟩:=spl_ne (b.take ((endF b).toNat - 4))
  replace hL : lnL b = l0 :: Lr:=hL
  rw [hL] at hE hfew hmost hSM hST hLL
  rw [rqX_cons] at hE
  simp only [List.headD_cons,List.tail_cons] at hSM hST hLL
  rw [List.length_cons] at hfew
  have hl0:=hmost l0 (by simp); have hl1:=stR_len l0; have hl2:=stD_len l0; have hl3:=stD_len (stR l0); have hC:=Hj (fun w => cut_any (str l0) 32 w (by rw [str_size]; unfold maxLen; omega))
  have hC2:=fun w => cut_any (str (stR l0)) 32 w (by rw [str_size]; unfold maxLen; omega)
  unfold cutV at hC hC2
  rw [bs_str,show l0.takeWhile (· != 32) = rlM l0 from rfl,show (l0.dropWhile (· != 32)).drop 1 = stR l0 from rfl] at hC
  simp only [bs_str] at hC2
  rw [show (stR l0).takeWhile (· != 32) = rlT l0 from rfl,show ((stR l0).dropWhile (· != 32)).drop 1 = rlV l0 from rfl] at hC2
  replace hC2:=Hj hC2; have hMe:=fun w => method_any (str (rlM l0)) w (by rw [str_size]; unfold rlM; omega)
  have hTa:=fun w => target_any (str (rlM l0)) (str (rlT l0)) w (by rw [str_size]; unfold rlT; omega)
  simp only [bs_str] at hMe hTa
  have hHd:=Hj (fun v w h => headers_any Lr v w h (fun l hl => by have:=hmost l (by simp [hl]); omega) (by omega))
  unfold HdsR at hHd
  have hHo:=Hj (fun v w h => hosted_any (Lr.map hdV) v w (fun p hp => by
   obtain ⟨l,hl,rfl⟩:=List.mem_map.1 hp
   have h1:=hdV_len l; have h2:=hmost l (by simp [hl]); omega) (by rw [List.length_map]; omega) h)
  unfold HosR at hHo
  have hv : ((str (rlV l0)).toList == [72,84,84,80,47,49,46,49]) = decide (rlV l0 = verB):=by rw [lit_beq,bs_str]; rfl
  have hlm : (rqF (Lr.map hdV)).length = Lr.length:=by unfold rqF; rw [List.length_map,List.length_map]
  have hgood:=Hj (fun (h : rqE b = 0) (w' : World) (o : Value) (ho : Own w' w.heap.size 26 2 o Lr.length (prs (rqF (Lr.map hdV)))) (hb : Below w.heap.size w w') => show RqO w b (.returned (.tuple #[.agg #[.string (str (rlM l0)),.string (str (rlT l0)),o],.int .i64 (endF b),.nilIface])) w' by
   have:=RqO.good (b:=b) (o:=o) h (by rw [hLL,hlm]; exact ho) hb
   rw [hSM,hST] at this; exact this)
  replace hLL:=Hj hLL; replace hSM:=Hj hSM; replace hST:=Hj hST; replace hlm:=Hj hlm; replace k1:=Hj k1; replace hL:=Hj hL; replace hmost:=Hj hmost; generalize str (rlV l0) = sv at *; generalize str (rlM l0) = sm at *; generalize str (rlT l0) = stg at *; generalize str (stR l0) = sr at *; cases k2 : mthB (rlM l0) with
  | false =>
   rw [if_pos k2] at hE
   have hR:=Hj (RqO.bad (w:=w) hE (by decide)); rw [k2] at hMe
   replace hMe:=Hj hMe; replace hTa:=Hj hTa; replace hE:=Hj hE; replace k2:=Hj k2; go_enter Tryz.func55,Tryz.ntmps55
   go_wp2_with fail
   refine (hLn.out _ hB0.out).mono ?_
   rintro e w1 ⟨h1,hb1⟩
   obtain ⟨o1,rfl,hr1⟩ : ∃ o,e = .returned (.tuple #[o,.int .i64 (endF b),.nilIface]) ∧ Rd w1 1 o (l0 :: Lr).length (strs (l0 :: Lr)):=by
    rcases h1 with ⟨h1,-⟩ | ⟨-,o,h1,h2⟩
    ·exact absurd k1.out h1
    ·rw [hL.out] at h2; exact ⟨o,h1,h2⟩
   have hK1:=Hj (hK0.out.below hb1); have hB1:=Hj (Below.next hB0.out hB0.out.size hb1); clear hb1 h1; obtain ⟨A1,c1,rfl,hc1,-,r1⟩:=id hr1; obtain ⟨b1,off1,rfl,hl1,x1⟩:=r1 (by simp)
   have d1 : w1.cell? ⟨b1,off1 + 0,none⟩ = some (.string (str l0)):=x1 0 _ rfl
   rw [Nat.add_zero] at d1
   clear x1 r1; replace hr1:=Hj hr1; go_wp2_with fail
   refine (hC.out _).mono ?_
   rintro e w2 ⟨rfl,n2,rfl⟩
   clear d1; go_wp2_with fail
   refine (hC2.out _).mono ?_
   rintro e w3 ⟨rfl,n3,rfl⟩
   have hK3:=Hj (hK1.out.drewN (n2 + n3)); have hB3:=Hj (below_drewN hB1.out (n2 + n3)); go_wp2_with fail
   refine (hMe.out _).mono ?_
   rintro e w4 ⟨rfl,rfl⟩
   have f0:=hK3.out.cell 0; have f1:=hK3.out.cell 1; have f2:=hK3.out.cell 2; have g0:=hK3.out.frozen 0; have g1:=hK3.out.frozen 1; have g2:=hK3.out.frozen 2; go_wp2; exact ret_blk3 rfl rfl rfl (hK3.out.three (.string ByteArray.empty) (.string ByteArray.empty) (.slice none 0 0)) Tryz.underlying30 rfl (by kernel_rfl) (hR.out _ (((hB3.out.setCell (p:=⟨w.heap.size,0,none⟩) (Nat.le_refl _) _).setCell (p:=⟨w.heap.size,1,none⟩) (Nat.le_refl _) _).setCell (p:=⟨w.heap.size,2,none⟩) (Nat.le_refl _) _))
  | true =>
   rw [if_neg (by rw [k2]; decide)] at hE
   rw [k2] at hMe
   replace hMe:=Hj hMe; replace k2:=Hj k2; cases k3 : tgtB (rlM l0) (rlT l0) with
   | false =>
    rw [if_pos k3] at hE
    have hR:=Hj (RqO.bad (w:=w) hE (by decide)); rw [k3] at hTa
    replace hTa:=Hj hTa; replace hE:=Hj hE; replace k3:=Hj k3; go_enter Tryz.func55,Tryz.ntmps55
    go_wp2_with fail
    refine (hLn.out _ hB0.out).mono ?_
    rintro e w1 ⟨h1,hb1⟩
    obtain ⟨o1,rfl,hr1⟩ : ∃ o,e = .returned (.tuple #[o,.int .i64 (endF b),.nilIface]) ∧ Rd w1 1 o (l0 :: Lr).length (strs (l0 :: Lr)):=by
     rcases h1 with ⟨h1,-⟩ | ⟨-,o,h1,h2⟩
     ·exact absurd k1.out h1
     ·rw [hL.out] at h2; exact ⟨o,h1,h2⟩
    have hK1:=Hj (hK0.out.below hb1); have hB1:=Hj (Below.next hB0.out hB0.out.size hb1); clear hb1 h1; obtain ⟨A1,c1,rfl,hc1,-,r1⟩:=id hr1; obtain ⟨b1,off1,rfl,hl1,x1⟩:=r1 (by simp)
    have d1 : w1.cell? ⟨b1,off1 + 0,none⟩ = some (.string (str l0)):=x1 0 _ rfl
    rw [Nat.add_zero] at d1
    clear x1 r1; replace hr1:=Hj hr1; go_wp2_with fail
    refine (hC.out _).mono ?_
    rintro e w2 ⟨rfl,n2,rfl⟩
    clear d1; go_wp2_with fail
    refine (hC2.out _).mono ?_
    rintro e w3 ⟨rfl,n3,rfl⟩
    have hK3:=Hj (hK1.out.drewN (n2 + n3)); have hB3:=Hj (below_drewN hB1.out (n2 + n3)); go_wp2_with fail
    refine (hMe.out _).mono ?_
    rintro e w4 ⟨rfl,rfl⟩
    go_wp2_with fail
    refine (hTa.out _).mono ?_
    rintro e w4 ⟨rfl,rfl⟩
    have f0:=hK3.out.cell 0; have f1:=hK3.out.cell 1; have f2:=hK3.out.cell 2; have g0:=hK3.out.frozen 0; have g1:=hK3.out.frozen 1; have g2:=hK3.out.frozen 2; go_wp2; exact ret_blk3 rfl rfl rfl (hK3.out.three (.string ByteArray.empty) (.string ByteArray.empty) (.slice none 0 0)) Tryz.underlying30 rfl (by kernel_rfl) (hR.out _ (((hB3.out.setCell (p:=⟨w.heap.size,0,none⟩) (Nat.le_refl _) _).setCell (p:=⟨w.heap.size,1,none⟩) (Nat.le_refl _) _).setCell (p:=⟨w.heap.size,2,none⟩) (Nat.le_refl _) _))
   | true =>
    rw [if_neg (by rw [k3]; decide)] at hE
    rw [k3] at hTa
    replace hTa:=Hj hTa; replace k3:=Hj k3; by_cases k4 : rlV l0 = verB
    ·rw [decide_eq_true k4] at hv
     rw [if_pos k4] at hE
     replace k4:=Hj k4; by_cases k6 : hdsE Lr = 0
     ·rw [if_pos k6] at hE
      replace k6:=Hj k6; cases k7 : hsX (Lr.map hdV) with
      | none =>
       rw [if_pos k7] at hE
       have hR:=Hj (RqO.bad (w:=w) hE (by decide)); replace hE:=Hj hE; replace k7:=Hj k7; go_enter Tryz.func55,Tryz.ntmps55
       go_wp2_with fail
       refine (hLn.out _ hB0.out).mono ?_
       rintro e w1 ⟨h1,hb1⟩
       obtain ⟨o1,rfl,hr1⟩ : ∃ o,e = .returned (.tuple #[o,.int .i64 (endF b),.nilIface]) ∧ Rd w1 1 o (l0 :: Lr).length (strs (l0 :: Lr)):=by
        rcases h1 with ⟨h1,-⟩ | ⟨-,o,h1,h2⟩
        ·exact absurd k1.out h1
        ·rw [hL.out] at h2; exact ⟨o,h1,h2⟩
       have hK1:=Hj (hK0.out.below hb1); have hB1:=Hj (Below.next hB0.out hB0.out.size hb1); clear hb1 h1; obtain ⟨A1,c1,rfl,hc1,-,r1⟩:=id hr1; obtain ⟨b1,off1,rfl,hl1,x1⟩:=r1 (by simp)
       have d1 : w1.cell? ⟨b1,off1 + 0,none⟩ = some (.string (str l0)):=x1 0 _ rfl
       rw [Nat.add_zero] at d1
       clear x1 r1; replace hr1:=Hj hr1; go_wp2_with fail
       refine (hC.out _).mono ?_
       rintro e w2 ⟨rfl,n2,rfl⟩
       clear d1; go_wp2_with fail
       refine (hC2.out _).mono ?_
       rintro e w3 ⟨rfl,n3,rfl⟩
       have hK3:=Hj (hK1.out.drewN (n2 + n3)); have hB3:=Hj (below_drewN hB1.out (n2 + n3)); go_wp2_with fail
       refine (hMe.out _).mono ?_
       rintro e w4 ⟨rfl,rfl⟩
       go_wp2_with fail
       refine (hTa.out _).mono ?_
       rintro e w4 ⟨rfl,rfl⟩
       rw [List.length_cons] at hc1
       by_cases hcp : c1 = 1
       ·subst hcp
        obtain rfl : Lr = []:=by cases Lr with | nil => rfl | cons a r => simp at hc1
        have hr4:=Hj (rd_none0 (w1.drewN (n2 + n3)) ⟨b1,off1,none⟩); go_wp2_with fail
        refine (hHd.out _ _ hr4.out).mono ?_
        rintro e w5 ⟨h5,hb5⟩
        have hb5' : Below w1.heap.size w1 w5:=⟨hb5.os,hb5.tape,hb5.output,hb5.size,hb5.block⟩
        have hK5:=Hj (hK1.out.below hb5'); have hB5:=Hj (Below.next hB1.out hB1.out.size hb5'); clear hb5 hb5'; obtain ⟨o5,rfl,ho5⟩ : ∃ o,e = .returned (.tuple #[o,.nilIface]) ∧ Rd w5 2 o (([] : List (List UInt8)).map hdV).length (prs (([] : List (List UInt8)).map hdV)):=by
         rcases h5 with ⟨h5,-⟩ | ⟨-,o,h5,h6⟩
         ·exact absurd k6.out h5
         ·exact ⟨o,h5,Rd.own h6⟩
        clear h5; go_wp2_with fail
        refine (hHo.out _ _ ho5).mono ?_
        rintro e w6 ⟨h6,hb6⟩
        have hK6:=Hj (hK5.out.below hb6); have hB6:=Hj (Below.next hB5.out hB5.out.size hb6); obtain rfl : e = .returned (.tuple #[.slice none 0 0,.iface 57 (.int .i64 29)]):=by
         rcases h6 with ⟨-,h6⟩ | ⟨h,o,h6,-⟩
         ·exact h6
         ·rw [k7.out] at h6; cases h6
        clear h6 hb6; have f0:=hK6.out.cell 0; have f1:=hK6.out.cell 1; have f2:=hK6.out.cell 2; have g0:=hK6.out.frozen 0; have g1:=hK6.out.frozen 1; have g2:=hK6.out.frozen 2; go_wp2; exact ret_blk3 rfl rfl rfl (hK6.out.three (.string ByteArray.empty) (.string ByteArray.empty) (.slice none 0 0)) Tryz.underlying30 rfl (by kernel_rfl) (hR.out _ (((hB6.out.setCell (p:=⟨w.heap.size,0,none⟩) (Nat.le_refl _) _).setCell (p:=⟨w.heap.size,1,none⟩) (Nat.le_refl _) _).setCell (p:=⟨w.heap.size,2,none⟩) (Nat.le_refl _) _))
       ·have hr3:=rd_tail hr1.out
        have hc2 : Lr.length + 1 ≤ c1:=hc1
        obtain ⟨c,rfl⟩ : ∃ c,c1 = c + 2:=⟨c1 - 2,by omega⟩
        clear hcp; have hr4:=Hj (hr3.drewN (n2 + n3)); go_wp2_with fail
        refine (hHd.out _ _ hr4.out).mono ?_
        rintro e w5 ⟨h5,hb5⟩
        have hb5' : Below w1.heap.size w1 w5:=⟨hb5.os,hb5.tape,hb5.output,hb5.size,hb5.block⟩
        have hK5:=Hj (hK1.out.below hb5'); have hB5:=Hj (Below.next hB1.out hB1.out.size hb5'); clear hb5 hb5'; obtain ⟨o5,rfl,ho5⟩ : ∃ o,e = .returned (.tuple #[o,.nilIface]) ∧ Rd w5 2 o (Lr.map hdV).length (prs (Lr.map hdV)):=by
         rcases h5 with ⟨h5,-⟩ | ⟨-,o,h5,h6⟩
         ·exact absurd k6.out h5
         ·exact ⟨o,h5,Rd.own h6⟩
        clear h5; go_wp2_with fail
        refine (hHo.out _ _ ho5).mono ?_
        rintro e w6 ⟨h6,hb6⟩
        have hK6:=Hj (hK5.out.below hb6); have hB6:=Hj (Below.next hB5.out hB5.out.size hb6); obtain rfl : e = .returned (.tuple #[.slice none 0 0,.iface 57 (.int .i64 29)]):=by
         rcases h6 with ⟨-,h6⟩ | ⟨h,o,h6,-⟩
         ·exact h6
         ·rw [k7.out] at h6; cases h6
        clear h6 hb6; have f0:=hK6.out.cell 0; have f1:=hK6.out.cell 1; have f2:=hK6.out.cell 2; have g0:=hK6.out.frozen 0; have g1:=hK6.out.frozen 1; have g2:=hK6.out.frozen 2; go_wp2; exact ret_blk3 rfl rfl rfl (hK6.out.three (.string ByteArray.empty) (.string ByteArray.empty) (.slice none 0 0)) Tryz.underlying30 rfl (by kernel_rfl) (hR.out _ (((hB6.out.setCell (p:=⟨w.heap.size,0,none⟩) (Nat.le_refl _) _).setCell (p:=⟨w.heap.size,1,none⟩) (Nat.le_refl _) _).setCell (p:=⟨w.heap.size,2,none⟩) (Nat.le_refl _) _))
      | some h =>
       rw [if_neg (by rw [k7]; exact fun h => by cases h)] at hE
       have hgood2:=hgood.out hE; replace hE:=Hj hE; replace k7:=Hj k7; clear hgood; have hgood:=Hj hgood2; clear hgood2; go_enter Tryz.func55,Tryz.ntmps55
       go_wp2_with fail
       refine (hLn.out _ hB0.out).mono ?_
       rintro e w1 ⟨h1,hb1⟩
       obtain ⟨o1,rfl,hr1⟩ : ∃ o,e = .returned (.tuple #[o,.int .i64 (endF b),.nilIface]) ∧ Rd w1 1 o (l0 :: Lr).length (strs (l0 :: Lr)):=by
        rcases h1 with ⟨h1,-⟩ | ⟨-,o,h1,h2⟩
        ·exact absurd k1.out h1
        ·rw [hL.out] at h2; exact ⟨o,h1,h2⟩
       have hK1:=Hj (hK0.out.below hb1); have hB1:=Hj (Below.next hB0.out hB0.out.size hb1); clear hb1 h1; obtain ⟨A1,c1,rfl,hc1,-,r1⟩:=id hr1; obtain ⟨b1,off1,rfl,hl1,x1⟩:=r1 (by simp)
       have d1 : w1.cell? ⟨b1,off1 + 0,none⟩ = some (.string (str l0)):=x1 0 _ rfl
       rw [Nat.add_zero] at d1
       clear x1 r1; replace hr1:=Hj hr1; go_wp2_with fail
       refine (hC.out _).mono ?_
       rintro e w2 ⟨rfl,n2,rfl⟩
       clear d1; go_wp2_with fail
       refine (hC2.out _).mono ?_
       rintro e w3 ⟨rfl,n3,rfl⟩
       have hK3:=Hj (hK1.out.drewN (n2 + n3)); have hB3:=Hj (below_drewN hB1.out (n2 + n3)); go_wp2_with fail
       refine (hMe.out _).mono ?_
       rintro e w4 ⟨rfl,rfl⟩
       go_wp2_with fail
       refine (hTa.out _).mono ?_
       rintro e w4 ⟨rfl,rfl⟩
       rw [List.length_cons] at hc1
       by_cases hcp : c1 = 1
       ·subst hcp
        obtain rfl : Lr = []:=by cases Lr with | nil => rfl | cons a r => simp at hc1
        have hr4:=Hj (rd_none0 (w1.drewN (n2 + n3)) ⟨b1,off1,none⟩); go_wp2_with fail
        refine (hHd.out _ _ hr4.out).mono ?_
        rintro e w5 ⟨h5,hb5⟩
        have hb5' : Below w1.heap.size w1 w5:=⟨hb5.os,hb5.tape,hb5.output,hb5.size,hb5.block⟩
        have hK5:=Hj (hK1.out.below hb5'); have hB5:=Hj (Below.next hB1.out hB1.out.size hb5'); clear hb5 hb5'; obtain ⟨o5,rfl,ho5⟩ : ∃ o,e = .returned (.tuple #[o,.nilIface]) ∧ Rd w5 2 o (([] : List (List UInt8)).map hdV).length (prs (([] : List (List UInt8)).map hdV)):=by
         rcases h5 with ⟨h5,-⟩ | ⟨-,o,h5,h6⟩
         ·exact absurd k6.out h5
         ·exact ⟨o,h5,Rd.own h6⟩
        clear h5; go_wp2_with fail
        refine (hHo.out _ _ ho5).mono ?_
        rintro e w6 ⟨h6,hb6⟩
        have hK6:=Hj (hK5.out.below hb6); have hB6:=Hj (Below.next hB5.out hB5.out.size hb6); obtain ⟨o6,rfl,ho6⟩ : ∃ o,e = .returned (.tuple #[o,.nilIface]) ∧ Own w6 w5.heap.size 26 2 o 0 (prs (rqF (([] : List (List UInt8)).map hdV))):=by
         rcases h6 with ⟨h6,-⟩ | ⟨h',o,h6,h7,h8⟩
         ·rw [k7.out] at h6; cases h6
         ·rw [k7.out] at h6; cases h6
          rw [List.length_map,List.length_map] at h8
          refine ⟨o,h7,?_⟩
          unfold rqF; rw [k7.out]; exact h8
        have hlt6 : w.heap.size < w5.heap.size:=hK5.out.lt
        obtain ⟨A6,c6,rfl,-,-,-⟩:=Rd.own ho6
        have ho7:=own_far (own_far (own_far ho6 (p:=⟨w.heap.size,0,none⟩) hlt6 (.string sm)) (p:=⟨w.heap.size,1,none⟩) hlt6 (.string stg)) (p:=⟨w.heap.size,2,none⟩) hlt6 (.slice A6 0 c6); have hw:=hgood.out _ _ (ho7.base (Nat.le_of_lt hlt6)) (((hB6.out.setCell (p:=⟨w.heap.size,0,none⟩) (Nat.le_refl _) (.string sm)).setCell (p:=⟨w.heap.size,1,none⟩) (Nat.le_refl _) (.string stg)).setCell (p:=⟨w.heap.size,2,none⟩) (Nat.le_refl _) (.slice A6 0 c6)); replace hw:=Hj hw; clear h6 hb6 ho6 ho7 hlt6; have f0:=hK6.out.cell 0; have f1:=hK6.out.cell 1; have f2:=hK6.out.cell 2; have g0:=hK6.out.frozen 0; have g1:=hK6.out.frozen 1; have g2:=hK6.out.frozen 2; go_wp2; exact ret_blk3 rfl rfl rfl (hK6.out.three (.string sm) (.string stg) (.slice A6 0 c6)) Tryz.underlying30 rfl (by kernel_rfl) hw.out
       ·have hr3:=rd_tail hr1.out
        have hc2 : Lr.length + 1 ≤ c1:=hc1
        obtain ⟨c,rfl⟩ : ∃ c,c1 = c + 2:=⟨c1 - 2,by omega⟩
        clear hcp; have hr4:=Hj (hr3.drewN (n2 + n3)); go_wp2_with fail
        refine (hHd.out _ _ hr4.out).mono ?_
        rintro e w5 ⟨h5,hb5⟩
        have hb5' : Below w1.heap.size w1 w5:=⟨hb5.os,hb5.tape,hb5.output,hb5.size,hb5.block⟩
        have hK5:=Hj (hK1.out.below hb5'); have hB5:=Hj (Below.next hB1.out hB1.out.size hb5'); clear hb5 hb5'; obtain ⟨o5,rfl,ho5⟩ : ∃ o,e = .returned (.tuple #[o,.nilIface]) ∧ Rd w5 2 o (Lr.map hdV).length (prs (Lr.map hdV)):=by
         rcases h5 with ⟨h5,-⟩ | ⟨-,o,h5,h6⟩
         ·exact absurd k6.out h5
         ·exact ⟨o,h5,Rd.own h6⟩
        clear h5; go_wp2_with fail
        refine (hHo.out _ _ ho5).mono ?_
        rintro e w6 ⟨h6,hb6⟩
        have hK6:=Hj (hK5.out.below hb6); have hB6:=Hj (Below.next hB5.out hB5.out.size hb6); obtain ⟨o6,rfl,ho6⟩ : ∃ o,e = .returned (.tuple #[o,.nilIface]) ∧ Own w6 w5.heap.size 26 2 o Lr.length (prs (rqF (Lr.map hdV))):=by
         rcases h6 with ⟨h6,-⟩ | ⟨h',o,h6,h7,h8⟩
         ·rw [k7.out] at h6; cases h6
         ·rw [k7.out] at h6; cases h6
          rw [List.length_map,List.length_map] at h8
          refine ⟨o,h7,?_⟩
          unfold rqF; rw [k7.out]; exact h8
        have hlt6 : w.heap.size < w5.heap.size:=hK5.out.lt
        obtain ⟨A6,c6,rfl,-,-,-⟩:=Rd.own ho6
        have ho7:=own_far (own_far (own_far ho6 (p:=⟨w.heap.size,0,none⟩) hlt6 (.string sm)) (p:=⟨w.heap.size,1,none⟩) hlt6 (.string stg)) (p:=⟨w.heap.size,2,none⟩) hlt6 (.slice A6 Lr.length c6); have hw:=hgood.out _ _ (ho7.base (Nat.le_of_lt hlt6)) (((hB6.out.setCell (p:=⟨w.heap.size,0,none⟩) (Nat.le_refl _) (.string sm)).setCell (p:=⟨w.heap.size,1,none⟩) (Nat.le_refl _) (.string stg)).setCell (p:=⟨w.heap.size,2,none⟩) (Nat.le_refl _) (.slice A6 Lr.length c6)); replace hw:=Hj hw; clear h6 hb6 ho6 ho7 hlt6; have f0:=hK6.out.cell 0; have f1:=hK6.out.cell 1; have f2:=hK6.out.cell 2; have g0:=hK6.out.frozen 0; have g1:=hK6.out.frozen 1; have g2:=hK6.out.frozen 2; go_wp2; exact ret_blk3 rfl rfl rfl (hK6.out.three (.string sm) (.string stg) (.slice A6 Lr.length c6)) Tryz.underlying30 rfl (by kernel_rfl) hw.out
     ·rw [if_neg k6] at hE
      have hR:=Hj (RqO.bad (w:=w) hE k6); replace hE:=Hj hE; replace k6:=Hj k6; go_enter Tryz.func55,Tryz.ntmps55
      go_wp2_with fail
      refine (hLn.out _ hB0.out).mono ?_
      rintro e w1 ⟨h1,hb1⟩
      obtain ⟨o1,rfl,hr1⟩ : ∃ o,e = .returned (.tuple #[o,.int .i64 (endF b),.nilIface]) ∧ Rd w1 1 o (l0 :: Lr).length (strs (l0 :: Lr)):=by
       rcases h1 with ⟨h1,-⟩ | ⟨-,o,h1,h2⟩
       ·exact absurd k1.out h1
       ·rw [hL.out] at h2; exact ⟨o,h1,h2⟩
      have hK1:=Hj (hK0.out.below hb1); have hB1:=Hj (Below.next hB0.out hB0.out.size hb1); clear hb1 h1; obtain ⟨A1,c1,rfl,hc1,-,r1⟩:=id hr1; obtain ⟨b1,off1,rfl,hl1,x1⟩:=r1 (by simp)
      have d1 : w1.cell? ⟨b1,off1 + 0,none⟩ = some (.string (str l0)):=x1 0 _ rfl
      rw [Nat.add_zero] at d1
      clear x1 r1; replace hr1:=Hj hr1; go_wp2_with fail
      refine (hC.out _).mono ?_
      rintro e w2 ⟨rfl,n2,rfl⟩
      clear d1; go_wp2_with fail
      refine (hC2.out _).mono ?_
      rintro e w3 ⟨rfl,n3,rfl⟩
      have hK3:=Hj (hK1.out.drewN (n2 + n3)); have hB3:=Hj (below_drewN hB1.out (n2 + n3)); go_wp2_with fail
      refine (hMe.out _).mono ?_
      rintro e w4 ⟨rfl,rfl⟩
      go_wp2_with fail
      refine (hTa.out _).mono ?_
      rintro e w4 ⟨rfl,rfl⟩
      rw [List.length_cons] at hc1
      by_cases hcp : c1 = 1
      ·subst hcp
       obtain rfl : Lr = []:=by cases Lr with | nil => rfl | cons a r => simp at hc1
       exact absurd rfl k6.out
      ·have hr3:=rd_tail hr1.out
       have hc2 : Lr.length + 1 ≤ c1:=hc1
       obtain ⟨c,rfl⟩ : ∃ c,c1 = c + 2:=⟨c1 - 2,by omega⟩
       clear hcp; have hr4:=Hj (hr3.drewN (n2 + n3)); go_wp2_with fail
       refine (hHd.out _ _ hr4.out).mono ?_
       rintro e w5 ⟨h5,hb5⟩
       have hb5' : Below w1.heap.size w1 w5:=⟨hb5.os,hb5.tape,hb5.output,hb5.size,hb5.block⟩
       have hK5:=Hj (hK1.out.below hb5'); have hB5:=Hj (Below.next hB1.out hB1.out.size hb5'); clear hb5 hb5'; obtain rfl : e = .returned (.tuple #[.slice none 0 0,.iface 57 (.int .i64 (hdsE Lr))]):=by
        rcases h5 with ⟨-,h5⟩ | ⟨h5,-⟩
        ·exact h5
        ·exact absurd h5 k6.out
       clear h5; generalize hdsE Lr = he at *; have f0:=hK5.out.cell 0; have f1:=hK5.out.cell 1; have f2:=hK5.out.cell 2; have g0:=hK5.out.frozen 0; have g1:=hK5.out.frozen 1; have g2:=hK5.out.frozen 2; go_wp2; exact ret_blk3 rfl rfl rfl (hK5.out.three (.string ByteArray.empty) (.string ByteArray.empty) (.slice none 0 0)) Tryz.underlying30 rfl (by kernel_rfl) (hR.out _ (((hB5.out.setCell (p:=⟨w.heap.size,0,none⟩) (Nat.le_refl _) _).setCell (p:=⟨w.heap.size,1,none⟩) (Nat.le_refl _) _).setCell (p:=⟨w.heap.size,2,none⟩) (Nat.le_refl _) _))
    ·rw [decide_eq_false k4] at hv
     rw [if_neg k4] at hE
     have hR:=Hj (RqO.bad (w:=w) hE (by decide)); replace hE:=Hj hE; replace k4:=Hj k4; go_enter Tryz.func55,Tryz.ntmps55
     go_wp2_with fail
     refine (hLn.out _ hB0.out).mono ?_
     rintro e w1 ⟨h1,hb1⟩
     obtain ⟨o1,rfl,hr1⟩ : ∃ o,e = .returned (.tuple #[o,.int .i64 (endF b),.nilIface]) ∧ Rd w1 1 o (l0 :: Lr).length (strs (l0 :: Lr)):=by
      rcases h1 with ⟨h1,-⟩ | ⟨-,o,h1,h2⟩
      ·exact absurd k1.out h1
      ·rw [hL.out] at h2; exact ⟨o,h1,h2⟩
     have hK1:=Hj (hK0.out.below hb1); have hB1:=Hj (Below.next hB0.out hB0.out.size hb1); clear hb1 h1; obtain ⟨A1,c1,rfl,hc1,-,r1⟩:=id hr1; obtain ⟨b1,off1,rfl,hl1,x1⟩:=r1 (by simp)
     have d1 : w1.cell? ⟨b1,off1 + 0,none⟩ = some (.string (str l0)):=x1 0 _ rfl
     rw [Nat.add_zero] at d1
     clear x1 r1; replace hr1:=Hj hr1; go_wp2_with fail
     refine (hC.out _).mono ?_
     rintro e w2 ⟨rfl,n2,rfl⟩
     clear d1; go_wp2_with fail
     refine (hC2.out _).mono ?_
     rintro e w3 ⟨rfl,n3,rfl⟩
     have hK3:=Hj (hK1.out.drewN (n2 + n3)); have hB3:=Hj (below_drewN hB1.out (n2 + n3)); go_wp2_with fail
     refine (hMe.out _).mono ?_
     rintro e w4 ⟨rfl,rfl⟩
     go_wp2_with fail
     refine (hTa.out _).mono ?_
     rintro e w4 ⟨rfl,rfl⟩
     have f0:=hK3.out.cell 0; have f1:=hK3.out.cell 1; have f2:=hK3.out.cell 2; have g0:=hK3.out.frozen 0; have g1:=hK3.out.frozen 1; have g2:=hK3.out.frozen 2; go_wp2; exact ret_blk3 rfl rfl rfl (hK3.out.three (.string ByteArray.empty) (.string ByteArray.empty) (.slice none 0 0)) Tryz.underlying30 rfl (by kernel_rfl) (hR.out _ (((hB3.out.setCell (p:=⟨w.heap.size,0,none⟩) (Nat.le_refl _) _).setCell (p:=⟨w.heap.size,1,none⟩) (Nat.le_refl _) _).setCell (p:=⟨w.heap.size,2,none⟩) (Nat.le_refl _) _))
 ·rw [if_neg k1] at hE
  have hR:=Hj (RqO.bad (w:=w) hE k1); replace hE:=Hj hE; replace k1:=Hj k1; go_enter Tryz.func55,Tryz.ntmps55
  go_wp2_with fail
  refine (hLn.out _ hB0.out).mono ?_
  rintro e w1 ⟨h1,hb1⟩
  obtain rfl : e = .returned (.tuple #[.slice none 0 0,.int .i64 0,.iface 57 (.int .i64 (lnE b))]):=by
   rcases h1 with ⟨-,h1⟩ | ⟨h1,-⟩
   ·exact h1
   ·exact absurd h1 k1.out
  have hK1:=Hj (hK0.out.below hb1); have hB1:=Hj (Below.next hB0.out hB0.out.size hb1); clear hb1 h1; generalize lnE b = le at *; have f0:=hK1.out.cell 0; have f1:=hK1.out.cell 1; have f2:=hK1.out.cell 2; have g0:=hK1.out.frozen 0; have g1:=hK1.out.frozen 1; have g2:=hK1.out.frozen 2; go_wp2; exact ret_blk3 rfl rfl rfl (hK1.out.three (.string ByteArray.empty) (.string ByteArray.empty) (.slice none 0 0)) Tryz.underlying30 rfl (by kernel_rfl) (hR.out _ (((hB1.out.setCell (p:=⟨w.heap.size,0,none⟩) (Nat.le_refl _) _).setCell (p:=⟨w.heap.size,1,none⟩) (Nat.le_refl _) _).setCell (p:=⟨w.heap.size,2,none⟩) (Nat.le_refl _) _))
end Go.Proofs.YtjffffpfejmoiaaGreatDoor
