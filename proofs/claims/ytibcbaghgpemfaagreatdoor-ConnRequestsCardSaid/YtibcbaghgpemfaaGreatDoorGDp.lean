import Derived.Test.YtibcbaghgpemfaaGreatDoorGLow
import Derived.Test.YtibcbaghgpemfaaGreatDoorGPl
import Derived.Lib.IndexMore
import Derived.Test.YtibcbaghgpemfaaGreatDoorGHd
import Derived.IntWalk
namespace Go.Proofs.YtibcbaghgpemfaaGreatDoor
namespace Hd
theorem cut_hit {c : UInt8} : ∀ {l : List UInt8} {k : Nat} (h : k < l.length),(∀ j,(hj : j < l.length) → j < k → l[j] ≠ c) → l[k] = c → l.takeWhile (· != c) = l.take k ∧ l.dropWhile (· != c) = l.drop k
 | [],k,h,_,_ => absurd h (Nat.not_lt_zero k)
 | x :: l,0,_,_,he => by
  simp only [List.getElem_cons_zero] at he
  subst he; simp
 | x :: l,k + 1,h,hn,he => by
  have hx : x ≠ c:=hn 0 (by simp) (by omega)
  have hx' : (x != c) = true:=by simpa using hx
  obtain ⟨h1,h2⟩:=cut_hit (l:=l) (k:=k) (by simpa using h) (fun j hj hjk => by have:=hn (j + 1) (by simpa using hj) (by omega); simpa using this) (by simpa using he)
  rw [List.takeWhile_cons_of_pos (p:=(· != c)) hx',List.dropWhile_cons_of_pos (p:=(· != c)) hx',h1,h2]
  exact ⟨rfl,rfl⟩
theorem cut_miss {c : UInt8} : ∀ {l : List UInt8},(∀ j,(hj : j < l.length) → l[j] ≠ c) → l.takeWhile (· != c) = l ∧ l.dropWhile (· != c) = []
 | [],_ => ⟨rfl,rfl⟩
 | x :: l,hn => by
  have hx0 : x ≠ c:=hn 0 (by simp)
  have hx : (x != c) = true:=by simpa using hx0
  obtain ⟨h1,h2⟩:=cut_miss (l:=l) (fun j hj => by have:=hn (j + 1) (by simpa using hj); simpa using this)
  rw [List.takeWhile_cons_of_pos (p:=(· != c)) hx,List.dropWhile_cons_of_pos (p:=(· != c)) hx,h1,h2]
  exact ⟨rfl,rfl⟩
end Hd
end Go.Proofs.YtibcbaghgpemfaaGreatDoor
namespace Go.Proofs.YtibcbaghgpemfaaGreatDoor
open Go.RowKit Syn Fr Hd Ck
namespace Hd
def dln : List UInt8 → List UInt8 → List (List UInt8)
 | _,[] => []
 | _,[_] => []
 | a,c :: d :: r => if c = 13 ∧ d = 10 then a :: dln [] r else dln (a ++ [c]) (d :: r)
theorem dln_skip : ∀ (i : Nat) (a s : List UInt8),i ≤ s.length → (∀ j,j < i → Lib.occAt s [13,10] j = false) → dln a s = dln (a ++ s.take i) (s.drop i)
 | 0,a,s,_,_ => by simp
 | i + 1,a,[],h,_ => by simp at h
 | i + 1,a,[c],h,_ => by
  obtain rfl : i = 0:=by simp at h; omega
  rfl
 | i + 1,a,c :: d :: r,h,ho => by
  have h0:=ho 0 (by omega); have hn : ¬ (c = 13 ∧ d = 10):=fun e => by
   obtain ⟨rfl,rfl⟩:=e
   unfold Lib.occAt at h0
   simp at h0
  rw [dln,if_neg hn,dln_skip i (a ++ [c]) (d :: r) (by simp at h ⊢; omega) (fun j hj => by
   have:=ho (j + 1) (by omega)
   unfold Lib.occAt at this ⊢
   rwa [List.drop_succ_cons] at this)]
  simp
theorem dln_head {a s : List UInt8} {i : Nat} (ho : Lib.occAt s [13,10] i = true) (hno : ∀ j,j < i → Lib.occAt s [13,10] j = false) : dln a s = (a ++ s.take i) :: dln [] (s.drop (i + 2)):=by
 unfold Lib.occAt at ho
 obtain ⟨t,ht⟩:=List.isPrefixOf_iff_prefix.1 ho
 have hl : i ≤ s.length:=by
  have:=congrArg List.length ht
  rw [List.length_drop] at this
  simp at this
  omega
 rw [dln_skip i a s hl hno,← ht]
 have e : s.drop (i + 2) = t:=by rw [← List.drop_drop,← ht]; rfl
 rw [e]
 show dln (a ++ s.take i) (13 :: 10 :: t) = _
 rw [dln,if_pos ⟨rfl,rfl⟩]
theorem occ_app {x y : List UInt8} {j : Nat} (h : j + 2 ≤ x.length) : Lib.occAt (x ++ y) [13,10] j = Lib.occAt x [13,10] j:=by
 have:=occ_take (b:=x ++ y) (sub:=[13,10]) (i:=j) (n:=x.length) h
 rw [List.take_left] at this
 exact this.symm
theorem dln_spl : ∀ (k : Nat) (x : List UInt8),Lib.count x [13,10] = k → dln [] (x ++ [13,10,13,10]) = Lib.splitK [13,10] 0 k x ++ [[]]:=by
 intro k; induction k with
 | zero =>
  intro x hk; rcases Lib.index_spec x [13,10] with ⟨-,hno⟩ | ⟨i,e,-,-,-⟩
  ·rw [dln_head (i:=x.length) (by unfold Lib.occAt; rw [List.drop_left]; rfl) (fun j hj => by
    rcases Nat.lt_or_ge (j + 1) x.length with h | h
    ·rw [occ_app (by omega)]; exact hno j (by omega)
    ·unfold Lib.occAt
     rw [List.drop_append_of_le_length (by omega)]
     obtain ⟨c,hc⟩ : ∃ c,x.drop j = [c]:=List.length_eq_one_iff.1 (by rw [List.length_drop]; omega)
     rw [hc]
     simp [List.isPrefixOf])]
   rw [List.take_left,← List.drop_drop,List.drop_left]
   rfl
  ·rw [Lib.count_hit (by simp) e] at hk; omega
 | succ k ih =>
  intro x hk; rcases Lib.index_spec x [13,10] with ⟨e,-⟩ | ⟨i,e,hi,ho,hno⟩
  ·rw [Lib.count_miss e] at hk; omega
  ·have hr:=Lib.index_room x [13,10] (by omega)
   have h2 : ([13,10] : List UInt8).length = 2:=rfl
   rw [Lib.count_hit (by simp) e,h2] at hk
   rw [e,h2] at hr
   have hc:=ih (x.drop (i + 2)) (by omega); rw [dln_head (i:=i) (by rw [occ_app (by omega)]; exact ho) (fun j hj => by rw [occ_app (by omega)]; exact hno j hj),Lib.splitK,if_neg (by rw [e]; simp),e,h2]
   rw [List.drop_append_of_le_length (by omega),hc,List.take_append_of_le_length (by omega)]
   rfl
end Hd
end Go.Proofs.YtibcbaghgpemfaaGreatDoor
namespace Go.Proofs.YtibcbaghgpemfaaGreatDoor
open Hd
namespace Hd
theorem dln_no {s a : List UInt8} {i : Nat} (h : i + 1 < s.length) (hn : ¬ (s[i] = 13 ∧ s[i + 1] = 10)) : dln a (s.drop i) = dln (a ++ [s[i]]) (s.drop (i + 1)):=by
 rw [List.drop_eq_getElem_cons (show i < s.length by omega),List.drop_eq_getElem_cons h,dln,if_neg hn]
theorem dln_yes {s a : List UInt8} {i : Nat} (h : i + 1 < s.length) (hn : s[i] = 13 ∧ s[i + 1] = 10) : dln a (s.drop i) = a :: dln [] (s.drop (i + 2)):=by
 rw [List.drop_eq_getElem_cons (show i < s.length by omega),List.drop_eq_getElem_cons h,dln,if_pos hn]
theorem dln_end {s a : List UInt8} {i : Nat} (h : s.length ≤ i + 1) : dln a (s.drop i) = []:=by
 have hl : (s.drop i).length ≤ 1:=by rw [List.length_drop]; omega
 match hd : s.drop i,hl with
 | [],_ => rfl
 | [x],_ => rfl
theorem take_more {s : List UInt8} {f i : Nat} (hf : f ≤ i) (hi : i < s.length) : (s.drop f).take (i - f) ++ [s[i]] = (s.drop f).take (i + 1 - f):=by
 have h : i - f < (s.drop f).length:=by rw [List.length_drop]; omega
 have e : (s.drop f)[i - f] = s[i]:=by rw [List.getElem_drop]; congr 1; omega
 rw [show i + 1 - f = (i - f) + 1 by omega,List.take_succ_eq_append_getElem h,e]
def LnAt (s : List UInt8) (o : List (List UInt8)) (f i : Nat) : Prop:=dln [] s = o ++ dln ((s.drop f).take (i - f)) (s.drop i) ∧ f ≤ i ∨ dln [] s = o ++ dln [] (s.drop f) ∧ f = i + 1 ∧ ∃ h : i < s.length,s[i] = 10
theorem lnAt_start (s : List UInt8) : LnAt s [] 0 0:=Or.inl ⟨by simp,Nat.le_refl _⟩
theorem lnAt_no {s : List UInt8} {o : List (List UInt8)} {f i : Nat} (h : LnAt s o f i) (hi : i + 1 < s.length) (hn : ¬ (s[i] = 13 ∧ s[i + 1] = 10)) : LnAt s o f (i + 1):=by
 rcases h with ⟨h,hf⟩ | ⟨h,hf,-⟩
 ·exact Or.inl ⟨by rw [h,dln_no hi hn,take_more hf (by omega)],by omega⟩
 ·exact Or.inl ⟨by rw [h,hf]; simp,by omega⟩
theorem lnAt_yes {s : List UInt8} {o : List (List UInt8)} {f i : Nat} (h : LnAt s o f i) (hi : i + 1 < s.length) (hn : s[i] = 13 ∧ s[i + 1] = 10) : f ≤ i ∧ LnAt s (o ++ [(s.drop f).take (i - f)]) (i + 2) (i + 1):=by
 rcases h with ⟨h,hf⟩ | ⟨h,hf,hi2,h10⟩
 ·exact ⟨hf,Or.inr ⟨by rw [h,dln_yes hi hn,List.append_assoc]; rfl,rfl,hi,hn.2⟩⟩
 ·rw [hn.1] at h10; cases h10
theorem lnAt_end {s : List UInt8} {o : List (List UInt8)} {f i : Nat} (h : LnAt s o f i) (hi : s.length ≤ i + 1) : dln [] s = o:=by
 rcases h with ⟨h,-⟩ | ⟨h,hf,-⟩
 ·rw [h,dln_end hi,List.append_nil]
 ·rw [h,dln_end (by omega),List.append_nil]
end Hd
end Go.Proofs.YtibcbaghgpemfaaGreatDoor
namespace Go.Proofs.YtibcbaghgpemfaaGreatDoor
namespace Hd
theorem occ_dec (s sub : List UInt8) (i : Nat) : Lib.occAt s sub i = decide ((s.drop i).take sub.length = sub):=by
 unfold Lib.occAt
 rw [Bool.eq_iff_iff,decide_eq_true_iff,List.isPrefixOf_iff_prefix,List.prefix_iff_eq_take]
 exact eq_comm
theorem occ_far {s sub : List UInt8} {i : Nat} (h : s.length < i + sub.length) (h0 : 0 < sub.length) : Lib.occAt s sub i = false:=by
 rw [occ_dec,decide_eq_false_iff_not]
 intro e; have:=congrArg List.length e
 rw [List.length_take,List.length_drop] at this
 omega
theorem index_first {s sub : List UInt8} {i : Nat} (ho : Lib.occAt s sub i = true) (hno : ∀ j,j < i → Lib.occAt s sub j = false) (hi : i ≤ s.length) : Lib.index s sub = i:=by
 rcases Lib.index_spec s sub with ⟨-,h⟩ | ⟨k,e,hk,hok,hnk⟩
 ·rw [h i hi] at ho; cases ho
 ·rcases Nat.lt_trichotomy i k with h | h | h
  ·rw [hnk i h] at ho; cases ho
  ·rw [e,h]
  ·rw [hno k h] at hok; cases hok
theorem index_none {s sub : List UInt8} (h0 : 0 < sub.length) (hno : ∀ j,j + sub.length ≤ s.length → Lib.occAt s sub j = false) : Lib.index s sub = -1:=by
 rcases Lib.index_spec s sub with ⟨e,-⟩ | ⟨k,e,hk,hok,hnk⟩
 ·exact e
 ·rcases Nat.lt_or_ge s.length (k + sub.length) with h | h
  ·rw [occ_far h h0] at hok; cases hok
  ·rw [hno k h] at hok; cases hok
end Hd
end Go.Proofs.YtibcbaghgpemfaaGreatDoor
namespace Go.Proofs.YtibcbaghgpemfaaGreatDoor
open Go.RowKit Syn Hd
namespace Hd
theorem tw3 {l : List UInt8} (h : (stD l).length = 3) : 3 ≤ l.length ∧ (∀ i,(hi : i < l.length) → i < 3 → l[i] ≠ 32) ∧ (∀ h4 : 3 < l.length,l[3] = 32):=by
 have h3 : 3 ≤ l.length:=by
  have:=(List.takeWhile_prefix (p:=(· != 32)) (l:=l)).length_le
  unfold stD at h
  rw [h] at this; exact this
 match l,h3 with
 | a :: b :: c :: r,_ =>
  unfold stD at h
  by_cases ha : (a != 32) = true
  ·rw [List.takeWhile_cons_of_pos (p:=(· != 32)) ha] at h
   by_cases hb : (b != 32) = true
   ·rw [List.takeWhile_cons_of_pos (p:=(· != 32)) hb] at h
    by_cases hc : (c != 32) = true
    ·rw [List.takeWhile_cons_of_pos (p:=(· != 32)) hc] at h
     refine ⟨by simp,fun i hi h3 => ?_,fun h4 => ?_⟩
     ·match i,h3 with
      | 0,_ => simpa using ha
      | 1,_ => simpa using hb
      | 2,_ => simpa using hc
     ·cases r with
      | nil => simp at h4
      | cons d r =>
       by_cases hd : (d != 32) = true
       ·rw [List.takeWhile_cons_of_pos (p:=(· != 32)) hd] at h; simp at h
       ·simpa using hd
    ·rw [List.takeWhile_cons_of_neg (p:=(· != 32)) hc] at h; simp at h
   ·rw [List.takeWhile_cons_of_neg (p:=(· != 32)) hb] at h; simp at h
  ·rw [List.takeWhile_cons_of_neg (p:=(· != 32)) ha] at h; simp at h
theorem st_short {l : List UInt8} (h : l.length < 3 ∨ ∃ h4 : 3 < l.length,l[3] ≠ 32) : stB l = false:=by
 unfold stB
 by_cases h3 : (stD l).length = 3
 ·obtain ⟨h1,-,h2⟩:=tw3 h3
  rcases h with h | ⟨h4,h⟩
  ·omega
  ·exact absurd (h2 h4) h
 ·simp [h3]
theorem st_split {l : List UInt8} (h3 : 3 ≤ l.length) (hs : ∀ h4 : 3 < l.length,l[3] = 32) (hn : ∀ i,(hi : i < l.length) → i < 3 → l[i] ≠ 32) : stD l = l.take 3 ∧ stR l = l.drop 4:=by
 match l,h3 with
 | a :: b :: c :: r,_ =>
  have ha0 : a ≠ 32:=hn 0 (by simp) (by omega)
  have ha : (a != 32) = true:=by simpa using ha0
  have hb0 : b ≠ 32:=hn 1 (by simp) (by omega)
  have hb : (b != 32) = true:=by simpa using hb0
  have hc0 : c ≠ 32:=hn 2 (by simp) (by omega)
  have hc : (c != 32) = true:=by simpa using hc0
  unfold stD stR
  rw [List.takeWhile_cons_of_pos (p:=(· != 32)) ha,List.takeWhile_cons_of_pos (p:=(· != 32)) hb,List.takeWhile_cons_of_pos (p:=(· != 32)) hc,List.dropWhile_cons_of_pos (p:=(· != 32)) ha,List.dropWhile_cons_of_pos (p:=(· != 32)) hb,List.dropWhile_cons_of_pos (p:=(· != 32)) hc]
  cases r with
  | nil => exact ⟨rfl,rfl⟩
  | cons d r =>
   have hd : d = 32:=hs (by simp)
   have hd' : ¬ (d != 32) = true:=by simp [hd]
   rw [List.takeWhile_cons_of_neg (p:=(· != 32)) hd',List.dropWhile_cons_of_neg (p:=(· != 32)) hd']
   exact ⟨rfl,rfl⟩
theorem dgt_32 {c : UInt8} (h : dgt c = true) : c ≠ 32:=by
 rintro rfl
 exact absurd h (by decide)
theorem st_nodigit {l : List UInt8} {i : Nat} (hi : i < l.length) (h3 : i < 3) (hd : dgt l[i] = false) : stB l = false:=by
 unfold stB
 by_cases hl : (stD l).length = 3
 ·obtain ⟨h1,h2,h4⟩:=tw3 hl
  obtain ⟨e1,-⟩:=st_split h1 h4 h2
  have : (stD l).all dgt = false:=by
   rw [e1,List.all_eq_false]
   refine ⟨l[i],?_,by rw [hd]; simp⟩
   rw [List.mem_iff_getElem]
   exact ⟨i,by rw [List.length_take]; omega,by rw [List.getElem_take]⟩
  simp [this]
 ·simp [hl]
theorem st_yes {l : List UInt8} (h3 : 3 ≤ l.length) (hs : ∀ h4 : 3 < l.length,l[3] = 32) (hd : ∀ i,(hi : i < l.length) → i < 3 → dgt l[i] = true) : stB l = (cln (l.drop 4) && (decide (100 ≤ dval (l.take 3)) && decide (dval (l.take 3) ≤ 599))) ∧ stV l = (dval (l.take 3) : Int):=by
 obtain ⟨e1,e2⟩:=st_split h3 hs (fun i hi h => dgt_32 (hd i hi h))
 unfold stB stV
 rw [e1,e2]
 have h1 : (l.take 3).length = 3:=by rw [List.length_take]; omega
 have h2 : (l.take 3).all dgt = true:=by
  rw [List.all_eq_true]
  intro x hx; obtain ⟨j,hj,rfl⟩:=List.mem_iff_getElem.1 hx
  rw [List.length_take] at hj
  rw [List.getElem_take]
  exact hd j (by omega) (by omega)
 rw [h1,h2]
 exact ⟨by simp,rfl⟩
end Hd
end Go.Proofs.YtibcbaghgpemfaaGreatDoor
namespace Go.Proofs.YtibcbaghgpemfaaGreatDoor
open Go.RowKit Hd
namespace Hd
theorem endF_at {b : List UInt8} {k : Nat} (h : endF b = ((k + 4 : Nat) : Int)) (h2 : Lib.hasPrefix b [13,10] = false) : Lib.index b [13,10,13,10] = k ∧ b.take (k + 4) = b.take k ++ [13,10,13,10]:=by
 unfold endF at h
 rw [if_neg (by rw [h2]; decide)] at h
 split at h
 ·omega
 ·have hi : Lib.index b [13,10,13,10] = k:=by omega
  refine ⟨hi,?_⟩
  rcases Lib.index_spec b [13,10,13,10] with ⟨e,-⟩ | ⟨i,e,-,ho,-⟩
  ·omega
  ·obtain rfl : i = k:=by omega
   rw [occ_dec,decide_eq_true_iff] at ho
   rw [List.take_add]
   exact congrArg _ ho
theorem endF_two {b : List UInt8} (h2 : Lib.hasPrefix b [13,10] = true) : endF b = 2:=if_pos h2
theorem dsp_lines {b : List UInt8} {k : Nat} (h : endF b = ((k + 4 : Nat) : Int)) (h2 : Lib.hasPrefix b [13,10] = false) : dln [] (b.take (k + 4)) = lnL b ++ [[]]:=by
 rw [(endF_at h h2).2]
 have e : lnL b = Lib.splitK [13,10] 0 (Lib.count (b.take k) [13,10]) (b.take k):=by
  unfold lnL
  rw [h]; rfl
 rw [e]
 exact dln_spl _ _ rfl
theorem dsp_err {b : List UInt8} (h2 : Lib.hasPrefix b [13,10] = false) (h : 0 ≤ endF b) : lnE b = if 8192 < endF b ∨ 64 < ((dln [] (b.take (endF b).toNat)).length : Int) - 2 then 5 else if strB (b.take (endF b).toNat) = false then 22 else 0:=by
 rcases endF_cases b with h1 | ⟨h1,-⟩ | ⟨k,h1,-⟩
 ·omega
 ·unfold endF at h1
  rw [if_neg (by rw [h2]; decide)] at h1
  split at h1
  ·omega
  ·have:=Lib.index_ge b [13,10,13,10]; omega
 ·have hl:=dsp_lines h1 h2
  have hlen : (dln [] (b.take (k + 4))).length = (lnL b).length + 1:=by rw [hl,List.length_append,List.length_singleton]
  unfold lnE
  rw [h1,show (((k + 4 : Nat) : Int)).toNat = k + 4 from rfl,hlen,if_neg (by omega)]
  by_cases h8 : 8192 < k + 4
  ·rw [if_pos (by omega),if_pos (by omega)]
  ·rw [if_neg (by omega),if_neg (by omega)]
   by_cases h64 : 64 < (lnL b).length - 1
   ·rw [if_pos h64,if_pos (by omega)]
   ·rw [if_neg h64,if_neg (show ¬ (8192 < ((k + 4 : Nat) : Int) ∨ 64 < (((lnL b).length + 1 : Nat) : Int) - 2) by omega)]
end Hd
end Go.Proofs.YtibcbaghgpemfaaGreatDoor
namespace Go.Proofs.YtibcbaghgpemfaaGreatDoor
open Go.RowKit Syn Hd
set_option maxHeartbeats 1000000 in
theorem rwhite_any (c : UInt8) (w : World) :
  Calls Tryz.prog 108 #[.int .u8 (c.toNat : Int)] w fun e w' => e = .returned (.bool (Syn.blank c)) ∧ w' = w:=by
 by_cases h1 : c.toNat = 32
 ·have q1 : ((c.toNat : Int) == 32) = true:=beq_cast_true h1
  have hb : Hid (Syn.blank c = true):=by show _ = _; unfold Syn.blank; rw [UInt8.toNat_inj.1 (show c.toNat = (32 : UInt8).toNat from h1)]; rfl
  replace h1:=Hj h1; go_enter Tryz.func108,Tryz.ntmps108
  go_wp2; go_ret; exact ⟨by rw [hb.out]; rfl,rfl⟩
 ·have q1 : ((c.toNat : Int) == 32) = false:=beq_cast_false h1
  by_cases h2 : c.toNat = 9
  ·have q2 : ((c.toNat : Int) == 9) = true:=beq_cast_true h2
   have hb : Hid (Syn.blank c = true):=by show _ = _; unfold Syn.blank; rw [UInt8.toNat_inj.1 (show c.toNat = (9 : UInt8).toNat from h2)]; rfl
   replace h2:=Hj h2; go_enter Tryz.func108,Tryz.ntmps108
   go_wp2; go_ret; exact ⟨by rw [hb.out]; rfl,rfl⟩
  ·have q2 : ((c.toNat : Int) == 9) = false:=beq_cast_false h2
   have hb : Hid (Syn.blank c = false):=by
    show _ = _
    unfold Syn.blank
    rw [Bool.or_eq_false_iff,beq_eq_false_iff_ne,beq_eq_false_iff_ne]
    exact ⟨fun e => h1 (by rw [e]; rfl),fun e => h2 (by rw [e]; rfl)⟩
   go_enter Tryz.func108,Tryz.ntmps108
   go_wp2; go_ret; exact ⟨by rw [hb.out]; rfl,rfl⟩
set_option maxHeartbeats 2000000 in
theorem rspaced_any (s : ByteArray) (w : World) (hs : s.size ≤ 1000000) :
  Calls Tryz.prog 109 #[.string s] w fun e w' => e = .returned (.bool ((bs s).any Syn.blank)) ∧ w' = w:=by
 have hw:=Hj (fun c w => rwhite_any c w); obtain ⟨R,hRR⟩ : ∃ R,(bs s).any Syn.blank = R:=⟨_,rfl⟩
 rw [hRR]
 replace hRR:=Hj hRR; go_enter Tryz.func109,Tryz.ntmps109
 go_wp2; go_loop [3] (fun i => ∃ k : Nat,i = .int .i64 (k : Int) ∧ k ≤ s.size ∧ Hid (((bs s).take k).any Syn.blank = false)) (fun i => s.size - (intOf i).toNat)
 case atStart => exact ⟨0,rfl,by omega,Hj (by simp)⟩
 case round =>
  obtain ⟨k,rfl,hk,hno⟩:=hrel
  by_cases hlt : k < s.size
  ·have ht:=take_at s k hlt
   have hb:=hw.out s[k] w; cases hbl : Syn.blank s[k]
   ·rw [hbl] at hb
    have hn : Hid (((bs s).take (k + 1)).any Syn.blank = false):=by
     show _ = _
     rw [ht,List.any_append,hno.out]; simp [hbl]
    clear ht hbl; go_wp2_with fail
    refine hb.mono ?_
    rintro e w' ⟨rfl,rfl⟩
    go_wp2; go_round
    case rel => exact ⟨k + 1,by go_num,by omega,hn⟩
    case measure => simp [intOf]; omega
   ·rw [hbl] at hb
    have hn : Hid (R = true):=by
     show _ = _
     rw [← hRR.out,List.any_eq_true]
     exact ⟨s[k],List.mem_of_getElem? (byte_at s k hlt),hbl⟩
    clear ht hbl; go_wp2_with fail
    refine hb.mono ?_
    rintro e w' ⟨rfl,rfl⟩
    go_wp2; go_ret; exact ⟨by rw [hn.out]; rfl,rfl⟩
  ·obtain rfl : k = s.size:=by omega
   rw [take_all,hRR.out] at hno
   go_wp2; go_ret; exact ⟨by rw [hno.out]; rfl,rfl⟩
set_option maxHeartbeats 2000000 in
theorem rcut_any (s : ByteArray) (c : UInt8) (w : World) (hs : s.size ≤ 1000000) :
  Calls Tryz.prog 68 #[.string s,.int .u8 (c.toNat : Int)] w fun e w' => e = .returned (.tuple #[.string (str ((bs s).takeWhile (· != c))),.string (str (((bs s).dropWhile (· != c)).drop 1)),.bool (!((bs s).dropWhile (· != c)).isEmpty)]) ∧ ∃ n,w' = w.drewN n:=by
 obtain ⟨T,hT⟩ : ∃ T,str ((bs s).takeWhile (· != c)) = T:=⟨_,rfl⟩
 obtain ⟨D,hD⟩ : ∃ D,str (((bs s).dropWhile (· != c)).drop 1) = D:=⟨_,rfl⟩
 obtain ⟨O,hO⟩ : ∃ O,(!((bs s).dropWhile (· != c)).isEmpty) = O:=⟨_,rfl⟩
 rw [hT,hD,hO]
 replace hT:=Hj hT; replace hD:=Hj hD; replace hO:=Hj hO; go_enter Tryz.func68,Tryz.ntmps68
 go_wp2; go_loop [7] (fun i => ∃ k : Nat,i = .int .i64 (k : Int) ∧ k ≤ s.size ∧ Hid (∀ j,(hj : j < (bs s).length) → j < k → (bs s)[j] ≠ c)) (fun i => s.size - (intOf i).toNat)
 case atStart => exact ⟨0,rfl,by omega,Hj (fun j _ h => absurd h (Nat.not_lt_zero j))⟩
 case round =>
  obtain ⟨k,rfl,hk,hno⟩:=hrel
  by_cases hlt : k < s.size
  ·have hlt2 : k < (bs s).length:=by rw [bs_length]; exact hlt
   have hge : (bs s)[k] = s[k]:=by
    have:=byte_at s k hlt
    rw [List.getElem?_eq_getElem hlt2] at this
    exact Option.some.inj this
   by_cases he : s[k] = c
   ·have q1 : ((s[k].toNat : Int) == (c.toNat : Int)) = true:=by rw [he]; exact beq_self_eq_true _
    obtain ⟨h1,h2⟩:=cut_hit hlt2 hno.out (hge.trans he)
    have e1 : Hid (T = s.extract 0 k):=by show _ = _; rw [← hT.out,h1,extract_str,List.drop_zero]
    have e2 : Hid (D = s.extract (k + 1) s.size):=by show _ = _; rw [← hD.out,h2,List.drop_drop,extract_str,take_all]
    have e3 : Hid (O = true):=by
     show _ = _
     rw [← hO.out,h2,List.drop_eq_getElem_cons hlt2]; rfl
    clear h1 h2 hge he hno; go_wp2; go_quiet (fail)
    go_wp2; go_ret3
    exact ⟨by rw [e1.out,e2.out,e3.out]; rfl,nq,rfl⟩
   ·have q1 : ((s[k].toNat : Int) == (c.toNat : Int)) = false:=beq_cast_false (fun e => he (UInt8.toNat_inj.1 e))
    have hn : Hid (∀ j,(hj : j < (bs s).length) → j < k + 1 → (bs s)[j] ≠ c):=fun j hj hjk => by
     rcases Nat.eq_or_lt_of_le (Nat.lt_succ_iff.1 hjk) with rfl | h
     ·rw [hge]; exact he
     ·exact hno.out j hj h
    clear hge he hno; go_wp2; go_round
    case rel => exact ⟨k + 1,by go_num,by omega,hn⟩
    case measure => simp [intOf]; omega
  ·obtain rfl : k = s.size:=by omega
   obtain ⟨h1,h2⟩:=cut_miss (l:=bs s) (c:=c) (fun j hj => hno.out j hj (by rw [bs_length] at hj; exact hj))
   have e1 : Hid (T = s):=by show _ = _; rw [← hT.out,h1,str_bs]
   have e2 : Hid (D = ⟨#[]⟩):=by show _ = _; rw [← hD.out,h2]; rfl
   have e3 : Hid (O = false):=by show _ = _; rw [← hO.out,h2]; rfl
   clear h1 h2 hno; go_wp2; all_goals try go_quiet (fail)
   all_goals try go_wp2
   go_ret3
   exact ⟨by rw [e1.out,e2.out,e3.out]; rfl,0,rfl⟩
end Go.Proofs.YtibcbaghgpemfaaGreatDoor
namespace Go.Proofs.YtibcbaghgpemfaaGreatDoor
open Go.RowKit Syn Hd
theorem ext_list (s : ByteArray) (a b : Nat) : (s.extract a b).toList = ((bs s).take b).drop a:=by rw [extract_str,str_toList]
theorem ext_takeD (s : ByteArray) (a n : Nat) : (s.extract a (a + n)).toList = ((bs s).drop a).take n:=by
 rw [ext_list,List.take_drop]
def Hd.endD (b : List UInt8) : Int:=if endF b < 0 then 0 else endF b
set_option maxRecDepth 100000 in
set_option maxHeartbeats 4000000 in
theorem rend_any (s : ByteArray) (w : World) (hs : s.size ≤ 1000000) :
  Calls Tryz.prog 105 #[.string s] w fun e w' => e = .returned (.int .i64 (endD (bs s))) ∧ w' = w:=by
 have hx2 : (s.extract 0 2).toList = (bs s).take 2:=by rw [ext_list,List.drop_zero]
 by_cases h2 : Lib.hasPrefix (bs s) [13,10] = true
 ·have hr : Hid (endD (bs s) = 2):=by show _ = _; unfold endD; rw [endF_two h2]; rfl
  have hsz : 2 ≤ s.size:=by
   unfold Lib.hasPrefix at h2
   have:=(List.isPrefixOf_iff_prefix.1 h2).length_le
   rw [bs_length] at this
   simpa using this
  have q1 : ((s.extract 0 2).toList == [13,10]) = true:=by
   rw [hx2]
   unfold Lib.hasPrefix at h2
   have:=List.prefix_iff_eq_take.1 (List.isPrefixOf_iff_prefix.1 h2)
   rw [beq_iff_eq]; exact this.symm
  have g1 : (2 : Int) ≤ (s.size : Int):=by omega
  replace h2:=Hj h2; clear hx2; go_enter Tryz.func105,Tryz.ntmps105
  go_wp2; go_ret; exact ⟨by rw [hr.out]; rfl,rfl⟩
 ·have h2' : Lib.hasPrefix (bs s) [13,10] = false:=by simpa using h2
  have hfin : Hid (∀ k : Nat,(k + 4 ≤ s.size → Lib.occAt (bs s) [13,10,13,10] k = true → (∀ j,j < k → Lib.occAt (bs s) [13,10,13,10] j = false) → endD (bs s) = ((k + 4 : Nat) : Int)) ∧ (s.size < k + 4 → (∀ j,j < k → Lib.occAt (bs s) [13,10,13,10] j = false) → endD (bs s) = 0)):=fun k => by
   have hEF : endF (bs s) = if Lib.index (bs s) [13,10,13,10] < 0 then -1 else Lib.index (bs s) [13,10,13,10] + 4:=by unfold endF; rw [if_neg h2]
   unfold endD
   refine ⟨fun hk ho hno => ?_,fun hk hno => ?_⟩
   ·have e : endF (bs s) = ((k + 4 : Nat) : Int):=by rw [hEF,index_first ho hno (by rw [bs_length]; omega),if_neg (by omega)]; omega
    rw [e,if_neg (by omega)]
   ·have e : endF (bs s) = -1:=by rw [hEF,index_none (by decide) (fun j hj => hno j (by rw [bs_length] at hj; simp at hj; omega)),if_pos (by decide)]
    rw [e,if_pos (by decide)]
  by_cases hsz : 2 ≤ s.size
  ·have q1 : ((s.extract 0 2).toList == [13,10]) = false:=by
    rw [hx2,beq_eq_false_iff_ne]
    intro e; refine h2 ?_
    unfold Lib.hasPrefix
    rw [List.isPrefixOf_iff_prefix,List.prefix_iff_eq_take]
    exact e.symm
   have g1 : (2 : Int) ≤ (s.size : Int):=by omega
   clear h2 h2' hx2; go_enter Tryz.func105,Tryz.ntmps105
   go_wp2; go_loop [3] (fun i => ∃ k : Nat,i = .int .i64 (k : Int) ∧ k ≤ s.size ∧ Hid (∀ j,j < k → Lib.occAt (bs s) [13,10,13,10] j = false)) (fun i => s.size - (intOf i).toNat)
   case atStart => exact ⟨0,rfl,by omega,Hj (fun j h => absurd h (Nat.not_lt_zero j))⟩
   case round =>
    obtain ⟨k,rfl,hk,hno⟩:=hrel
    have w1 : IntKind.i64.wrap ((k : Int) + 4) = (k : Int) + 4:=IntWalk.i64_in _ (by omega)
    by_cases hlt : k + 4 ≤ s.size
    ·have g2 : (k : Int) + 4 ≤ (s.size : Int):=by omega
     cases ho : Lib.occAt (bs s) [13,10,13,10] k
     ·have q2 : ((s.extract k (k + 4)).toList == [13,10,13,10]) = false:=by
       rw [ext_takeD,beq_eq_false_iff_ne]
       rw [occ_dec,decide_eq_false_iff_not] at ho
       exact ho
      have hn : Hid (∀ j,j < k + 1 → Lib.occAt (bs s) [13,10,13,10] j = false):=fun j hj => by
       rcases Nat.eq_or_lt_of_le (Nat.lt_succ_iff.1 hj) with rfl | h
       ·exact ho
       ·exact hno.out j h
      clear ho; go_wp2; go_round
      case rel => exact ⟨k + 1,by go_num,by omega,hn⟩
      case measure => simp [intOf]; omega
     ·have q2 : ((s.extract k (k + 4)).toList == [13,10,13,10]) = true:=by
       rw [ext_takeD,beq_iff_eq]
       rw [occ_dec,decide_eq_true_iff] at ho
       exact ho
      have hr : Hid (endD (bs s) = ((k + 4 : Nat) : Int)):=(hfin.out k).1 hlt ho hno.out
      clear ho; go_wp2; go_ret; exact ⟨by rw [hr.out]; rfl,rfl⟩
    ·have g2 : ¬ (k : Int) + 4 ≤ (s.size : Int):=by omega
     have hr : Hid (endD (bs s) = 0):=(hfin.out k).2 (by omega) hno.out
     go_wp2; go_ret; exact ⟨by rw [hr.out]; rfl,rfl⟩
  ·have g1 : ¬ (2 : Int) ≤ (s.size : Int):=by omega
   have hr : Hid (endD (bs s) = 0):=(hfin.out 0).2 (by omega) (fun j h => absurd h (Nat.not_lt_zero j))
   have g2 : ¬ (4 : Int) ≤ (s.size : Int):=by omega
   clear h2 h2' hx2; go_enter Tryz.func105,Tryz.ntmps105
   go_wp2; go_loop [3] (fun i => i = .int .i64 0) (fun _ => 0)
   case atStart => exact rfl
   case round =>
    obtain rfl:=hrel
    go_wp2; go_ret; exact ⟨by rw [hr.out]; rfl,rfl⟩
set_option maxRecDepth 100000 in
set_option maxHeartbeats 4000000 in
theorem rlines_any (s : ByteArray) (w : World) (hs : s.size ≤ 1000000) :
  Calls Tryz.prog 106 #[.string s] w fun e w' => ∃ o,e = .returned o ∧ Own w' w.heap.size 9 1 o (dln [] (bs s)).length (strs (dln [] (bs s))) ∧ Below w.heap.size w w':=by
 go_enter Tryz.func106,Tryz.ntmps106
 go_wp2; go_loopw [3,4,5] (fun o f i wr => ∃ (L : List (List UInt8)) (a k : Nat),f = .int .i64 (a : Int) ∧ i = .int .i64 (k : Int) ∧ k ≤ s.size ∧ a ≤ s.size ∧ L.length ≤ k ∧ Hid (LnAt (bs s) L a k) ∧ Hid (Own wr w.heap.size 9 1 o L.length (strs L)) ∧ Hid (Below w.heap.size w wr)) (fun _ _ i _ => s.size - (intOf i).toNat)
 case atStart => exact ⟨[],0,0,rfl,rfl,by omega,by omega,by simp,lnAt_start _,own_nil _ _ _ _,Below.refl _ _⟩
 case round =>
  obtain ⟨L,a,k,rfl,rfl,hk,ha,hL,hAt,ho,hB⟩:=hrel
  have w1 : IntKind.i64.wrap ((k : Int) + 2) = (k : Int) + 2:=IntWalk.i64_in _ (by omega)
  have hBz:=hB.out.size; by_cases hlt : k + 2 ≤ s.size
  ·have g2 : (k : Int) + 2 ≤ (s.size : Int):=by omega
   have hl1 : k + 1 < (bs s).length:=by rw [bs_length]; omega
   have hx : (s.extract k (k + 2)).toList = [(bs s)[k],(bs s)[k + 1]]:=by
    rw [ext_takeD,List.drop_eq_getElem_cons (show k < (bs s).length by omega),List.drop_eq_getElem_cons hl1]; rfl
   by_cases hc : (bs s)[k] = 13 ∧ (bs s)[k + 1] = 10
   ·have q1 : ((s.extract k (k + 2)).toList == [13,10]) = true:=by rw [hx,hc.1,hc.2]; rfl
    obtain ⟨hf,hn⟩:=lnAt_yes hAt.out hl1 hc
    have Hn:=Hj hn; have hex : Hid (s.extract a k = str (((bs s).drop a).take (k - a))):=by show _ = _; rw [extract_str,List.drop_take]
    have g3 : (a : Int) ≤ (k : Int):=by omega
    have g4 : (0 : Int) ≤ (a : Int):=by omega
    have g5 : (k : Int) ≤ (s.size : Int):=by omega
    clear hx hc hn hAt; go_wp2_with (at_builtin; refine push_str _ _ rfl rfl rfl ho.out rfl rfl (by omega) hBz ?_; intro v8 w8 ho8 hb8; replace ho8:=Hj ho8; have hB8:=Hj (hB.out.trans hb8); clear hb8)
    go_roundw
    case rel => exact ⟨L ++ [((bs s).drop a).take (k - a)],k + 2,k + 1,by go_num,by go_num,by omega,by omega,by simp; omega,Hn.out,by rw [strs_snoc,List.length_append,List.length_singleton,← hex.out]; exact ho8.out,hB8.out⟩
    case measure => simp [intOf]; omega
   ·have q1 : ((s.extract k (k + 2)).toList == [13,10]) = false:=by
     rw [hx,beq_eq_false_iff_ne]
     intro e; injection e with e1 e2
     injection e2 with e3 _
     exact hc ⟨e1,e3⟩
    have hn:=Hj (lnAt_no hAt.out hl1 hc); clear hx hc hAt; go_wp2; go_roundw
    case rel => exact ⟨L,a,k + 1,rfl,by go_num,by omega,by omega,by omega,hn.out,ho.out,hB.out⟩
    case measure => simp [intOf]; omega
  ·have g2 : ¬ (k : Int) + 2 ≤ (s.size : Int):=by omega
   have he : Hid (dln [] (bs s) = L):=lnAt_end hAt.out (by rw [bs_length]; omega)
   go_wp2; go_ret; exact ⟨_,rfl,by rw [he.out]; exact ho.out,hB.out⟩
end Go.Proofs.YtibcbaghgpemfaaGreatDoor
namespace Go.Proofs.YtibcbaghgpemfaaGreatDoor
open Go.RowKit Syn Hd
set_option maxRecDepth 100000 in
set_option maxHeartbeats 4000000 in
theorem rbare_any (s : ByteArray) (w : World) (hs : s.size ≤ 1000000) :
  Calls Tryz.prog 107 #[.string s] w fun e w' => e = .returned (.bool (!strB (bs s))) ∧ w' = w:=by
 go_enter Tryz.func107,Tryz.ntmps107
 go_wp2; go_loop [3] (fun i => ∃ (k : Nat) (cr : Bool),i = .int .i64 (k : Int) ∧ k ≤ s.size ∧ Hid (strB (bs s) = strR cr ((bs s).drop k)) ∧ Hid (cr = true → 0 < k ∧ (bs s)[k - 1]?.map UInt8.toNat = some 13 ∧ (bs s)[k]?.map UInt8.toNat = some 10) ∧ Hid (cr = false → k = 0 ∨ (bs s)[k - 1]?.map UInt8.toNat ≠ some 13)) (fun i => s.size - (intOf i).toNat)
 case atStart => exact ⟨0,false,rfl,by omega,Hj rfl,Hj (fun h => by cases h),Hj (fun _ => .inl rfl)⟩
 case round =>
  obtain ⟨k,cr,rfl,hk,hst,hcr,hnc⟩:=hrel
  by_cases hlt : k < s.size
  ·have hd:=drop_at s k hlt
   have hst2:=hst.out; rw [hd] at hst2
   have hbk : (bs s)[k]?.map UInt8.toNat = some s[k].toNat:=by rw [byte_at s k hlt]; rfl
   by_cases c0 : s[k].toNat = 0
   ·have q0 : ((s[k].toNat : Int) == 0) = true:=beq_cast_true c0
    have hf:=Hj (show false = strB (bs s) by rw [hst2,strR_no c0]); replace c0:=Hj c0; clear hst2 hd hbk; go_wp2; go_ret; exact ⟨congrArg (fun b => Ending.returned (.bool (!b))) hf.out,rfl⟩
   ·have q0 : ((s[k].toNat : Int) == 0) = false:=beq_cast_false c0
    by_cases c13 : s[k].toNat = 13
    ·have q13 : ((s[k].toNat : Int) == 13) = true:=beq_cast_true c13
     have q10 : ((s[k].toNat : Int) == 10) = false:=beq_cast_false (show s[k].toNat ≠ 10 by omega)
     have hcf : cr = false:=by
      cases cr with
      | false => rfl
      | true => have:=(hcr.out rfl).2.2; rw [hbk,c13] at this; cases this
     subst hcf; rw [strR_go c0 (by omega),c13] at hst2
     by_cases hend : k + 1 = s.size
     ·have q1 : ((k : Int) + 1 == (s.size : Int)) = true:=by rw [← hend]; exact beq_iff_eq.2 (by omega)
      have hf:=Hj (show false = strB (bs s) by rw [hst2,List.drop_of_length_le (by rw [bs_length]; omega)]; rfl)
      replace c0:=Hj c0; replace c13:=Hj c13; replace hend:=Hj hend; clear hst2 hd hbk; go_wp2; go_ret; exact ⟨congrArg (fun b => Ending.returned (.bool (!b))) hf.out,rfl⟩
     ·have q1 : ((k : Int) + 1 == (s.size : Int)) = false:=by rw [beq_eq_false_iff_ne]; omega
      have hlt1 : k + 1 < s.size:=by omega
      have hd1:=drop_at s (k + 1) hlt1; rw [hd1] at hst2
      have hbk1 : (bs s)[k + 1]?.map UInt8.toNat = some s[k + 1].toNat:=by rw [byte_at s (k + 1) hlt1]; rfl
      by_cases c10 : s[k + 1].toNat = 10
      ·have q2 : ((s[k + 1].toNat : Int) != 10) = false:=by rw [c10]; rfl
       have hA : Hid (strB (bs s) = strR true ((bs s).drop (k + 1))):=Hj (by rw [hst2,← hd1]; rfl)
       have hB : Hid (0 < k + 1 ∧ (bs s)[k + 1 - 1]?.map UInt8.toNat = some 13 ∧ (bs s)[k + 1]?.map UInt8.toNat = some 10):=Hj ⟨by omega,by rw [Nat.add_sub_cancel,hbk,c13],by rw [hbk1,c10]⟩
       replace c0:=Hj c0; replace c13:=Hj c13; replace c10:=Hj c10; clear hst2 hd hbk hd1 hbk1; go_wp2; go_round
       case rel => exact ⟨k + 1,true,by go_num,by omega,hA,Hj (fun _ => hB.out),Hj (fun h => by cases h)⟩
       case measure => simp [intOf]; omega
      ·have q2 : ((s[k + 1].toNat : Int) != 10) = true:=by rw [bne,show ((s[k + 1].toNat : Int) == 10) = false from beq_cast_false c10]; rfl
       have hf:=Hj (show false = strB (bs s) by rw [hst2,show decide (13 = 13) = true from rfl,strR_cr c10]); replace c0:=Hj c0; replace c13:=Hj c13; replace c10:=Hj c10; clear hst2 hd hbk hd1 hbk1; go_wp2; go_ret; exact ⟨congrArg (fun b => Ending.returned (.bool (!b))) hf.out,rfl⟩
    ·have q13 : ((s[k].toNat : Int) == 13) = false:=beq_cast_false c13
     by_cases c10 : s[k].toNat = 10
     ·have q10 : ((s[k].toNat : Int) == 10) = true:=beq_cast_true c10
      rw [strR_lf c10] at hst2
      cases cr with
      | true =>
       obtain ⟨h1,h2,-⟩:=hcr.out rfl
       obtain ⟨j,rfl⟩ : ∃ j,k = j + 1:=⟨k - 1,by omega⟩
       have hjs : j < s.size:=by omega
       rw [Nat.add_sub_cancel,byte_at s j hjs] at h2
       have h3 : s[j].toNat = 13:=by simpa using h2
       have q3 : ((s[j].toNat : Int) != 13) = false:=by rw [h3]; rfl
       have hA : Hid (strB (bs s) = strR false ((bs s).drop (j + 1 + 1))):=Hj hst2
       have hB : Hid (j + 1 + 1 = 0 ∨ (bs s)[j + 1 + 1 - 1]?.map UInt8.toNat ≠ some 13):=Hj (.inr (by rw [Nat.add_sub_cancel,hbk,c10]; decide))
       replace c0:=Hj c0; replace c13:=Hj c13; replace c10:=Hj c10; replace h3:=Hj h3; clear hst2 hd hbk h2; go_wp2; go_round
       case rel => exact ⟨j + 1 + 1,false,by go_num,by omega,hA,Hj (fun h => by cases h),Hj (fun _ => hB.out)⟩
       case measure => simp [intOf]; omega
      | false =>
       have hf:=Hj (show false = strB (bs s) by rw [hst2]; rfl)
       rcases hnc.out rfl with h1 | h1
       ·subst h1
        replace c0:=Hj c0; replace c13:=Hj c13; replace c10:=Hj c10; clear hst2 hd hbk; go_wp2; go_ret; exact ⟨congrArg (fun b => Ending.returned (.bool (!b))) hf.out,rfl⟩
       ·by_cases h2 : k = 0
        ·subst h2
         replace c0:=Hj c0; replace c13:=Hj c13; replace c10:=Hj c10; clear hst2 hd hbk h1; go_wp2; go_ret; exact ⟨congrArg (fun b => Ending.returned (.bool (!b))) hf.out,rfl⟩
        ·obtain ⟨j,rfl⟩ : ∃ j,k = j + 1:=⟨k - 1,by omega⟩
         have hjs : j < s.size:=by omega
         rw [Nat.add_sub_cancel,byte_at s j hjs] at h1
         have h3 : s[j].toNat ≠ 13:=fun h => h1 (by rw [Option.map_some,h])
         have q3 : ((s[j].toNat : Int) != 13) = true:=by rw [bne,show ((s[j].toNat : Int) == 13) = false from beq_cast_false h3]; rfl
         replace c0:=Hj c0; replace c13:=Hj c13; replace c10:=Hj c10; replace h3:=Hj h3; clear hst2 hd hbk h1; go_wp2; go_ret; exact ⟨congrArg (fun b => Ending.returned (.bool (!b))) hf.out,rfl⟩
     ·have q10 : ((s[k].toNat : Int) == 10) = false:=beq_cast_false c10
      have hcf : cr = false:=by
       cases cr with
       | false => rfl
       | true => have:=(hcr.out rfl).2.2; rw [hbk] at this; exact absurd (Option.some.inj this) c10
      subst hcf; rw [strR_go c0 c10,decide_eq_false c13] at hst2
      have hB : Hid (k + 1 = 0 ∨ (bs s)[k + 1 - 1]?.map UInt8.toNat ≠ some 13):=Hj (.inr (by rw [Nat.add_sub_cancel,hbk]; exact fun h => c13 (Option.some.inj h)))
      have hA:=Hj hst2; replace c0:=Hj c0; replace c13:=Hj c13; replace c10:=Hj c10; clear hst2 hd hbk; go_wp2; go_round
      case rel => exact ⟨k + 1,false,by go_num,by omega,hA,Hj (fun h => by cases h),Hj (fun _ => hB.out)⟩
      case measure => simp [intOf]; omega
  ·obtain rfl : k = s.size:=by omega
   have hcf : cr = false:=by
    cases cr with
    | false => rfl
    | true => have:=(hcr.out rfl).2.2; rw [List.getElem?_eq_none (by rw [bs_length]; exact Nat.le_refl _)] at this; cases this
   subst hcf; have hf:=Hj (show true = strB (bs s) by rw [hst.out,drop_all]; rfl)
   go_wp2; go_ret; exact ⟨congrArg (fun b => Ending.returned (.bool (!b))) hf.out,rfl⟩
end Go.Proofs.YtibcbaghgpemfaaGreatDoor
namespace Go.Proofs.YtibcbaghgpemfaaGreatDoor
open Go.RowKit Syn Hd
namespace Hd
def stA (l : List UInt8) : Int:=if stB l = true then stV l else 0
theorem stA_no {l : List UInt8} (h : stB l = false) : stA l = 0:=by unfold stA; rw [h]; rfl
theorem bs_at (s : ByteArray) (i : Nat) (h : i < s.size) (h2 : i < (bs s).length) : (bs s)[i] = s[i]:=by
 have:=byte_at s i h
 rw [List.getElem?_eq_getElem h2] at this
 exact Option.some.inj this
end Hd
set_option maxRecDepth 100000 in
set_option maxHeartbeats 4000000 in
theorem rstatus_any (s : ByteArray) (w : World) (hs : s.size ≤ 1000000) :
  Calls Tryz.prog 69 #[.string s] w fun e w' => e = .returned (.int .i64 (stA (bs s))) ∧ w' = w:=by
 have hn:=bs_length s; by_cases h3 : s.size < 3
 ·have hr:=Hj (stA_no (st_short (l:=bs s) (.inl (by omega))))
  have g1 : (s.size : Int) < 3:=by omega
  clear hn; go_enter Tryz.func69,Tryz.ntmps69
  go_wp2; go_ret; exact ⟨by rw [hr.out]; rfl,rfl⟩
 ·have g1 : ¬ (s.size : Int) < 3:=by omega
  by_cases h4 : ∃ h4 : 3 < s.size,s[3].toNat ≠ 32
  ·obtain ⟨h4,hx⟩:=h4
   have hr:=Hj (stA_no (st_short (l:=bs s) (.inr ⟨by omega,by rw [bs_at s 3 h4]; exact fun e => hx (by rw [e]; rfl)⟩)))
   have q1 : ((s[3].toNat : Int) != 32) = true:=by rw [bne,show ((s[3].toNat : Int) == 32) = false from beq_cast_false hx]; rfl
   have g2 : (3 : Int) < (s.size : Int):=by omega
   replace hx:=Hj hx; clear hn; go_enter Tryz.func69,Tryz.ntmps69
   go_wp2; go_ret; exact ⟨by rw [hr.out]; rfl,rfl⟩
  ·have hsp : Hid (∀ h : 3 < (bs s).length,(bs s)[3] = 32):=fun h => by
    have h5 : 3 < s.size:=by omega
    rw [bs_at s 3 h5]
    by_cases hx : s[3].toNat = 32
    ·exact UInt8.toNat_inj.1 hx
    ·exact absurd ⟨h5,hx⟩ h4
   have hno:=Hj (fun (h : stB (bs s) = false) => stA_no h); have hnd:=Hj (fun (i : Nat) (hi : i < s.size) (h : i < 3) (hd : dgt s[i] = false) => stA_no (st_nodigit (l:=bs s) (i:=i) (by omega) h (by rw [bs_at s i hi]; exact hd)))
   have hyes:=Hj (fun hd => st_yes (l:=bs s) (by omega) hsp.out hd); have hz : s.size = 3 ∨ ∃ h : 3 < s.size,s[3].toNat = 32:=by
    rcases Nat.lt_or_ge 3 s.size with h | h
    ·refine .inr ⟨h,?_⟩
     by_cases hx : s[3].toNat = 32
     ·exact hx
     ·exact absurd ⟨h,hx⟩ h4
    ·exact .inl (by omega)
   clear h4; have hmain : Hid (∀ (k : Nat) (hk : k < s.size),ctl s[k] = true → 3 ≤ k → cln ((bs s).drop 4) = false):=fun k hk hc h3k => by
    have hne : k ≠ 3:=fun e => by
     subst e; rcases hz with h | ⟨h,hx⟩
     ·omega
     ·unfold ctl at hc; rw [hx] at hc; cases hc
    unfold cln
    rw [List.all_eq_false]
    refine ⟨s[k],?_,by rw [hc]; simp⟩
    rw [List.mem_iff_getElem]
    exact ⟨k - 4,by rw [List.length_drop]; omega,by rw [List.getElem_drop]; simp only [show 4 + (k - 4) = k by omega]; exact bs_at s k hk _⟩
   rcases hz with hz | ⟨hz,hx⟩
   ·have g2 : ¬ (3 : Int) < (s.size : Int):=by omega
    replace hz:=hz; go_enter Tryz.func69,Tryz.ntmps69
    go_wp2; go_loop [3,4] (fun n i => ∃ k m : Nat,i = .int .i64 (k : Int) ∧ k ≤ 3 ∧ n = .int .i64 (m : Int) ∧ m ≤ 1000 ∧ Hid (m + 1 ≤ 10 ^ k) ∧ Hid (m = dval ((bs s).take k)) ∧ Hid (∀ i,(hi : i < (bs s).length) → i < k → dgt (bs s)[i] = true)) (fun _ i => 3 - (intOf i).toNat)
    case atStart => exact ⟨0,0,rfl,by omega,rfl,by omega,Hj (by decide),Hj rfl,Hj (fun i _ h => absurd h (Nat.not_lt_zero i))⟩
    case round =>
     obtain ⟨k,m,rfl,hk,rfl,hm,hmp,hmv,hall⟩:=hrel
     by_cases hlt : k < 3
     ·have hks : k < s.size:=by omega
      have hm9 : m ≤ 99:=by
       have h1:=hmp.out; have h2 : 10 ^ k ≤ 10 ^ 2:=Nat.pow_le_pow_right (by decide) (by omega)
       omega
      have htk:=take_at s k hks; have key : s[k].toNat < 48 ∨ 57 < s[k].toNat ∨ (48 ≤ s[k].toNat ∧ s[k].toNat ≤ 57):=by omega
      rcases key with h | h | ⟨h,h'⟩
      ·have e:=Hj (hnd.out k hks hlt (by unfold dgt; simp; omega))
       clear htk; go_wp2; go_ret; exact ⟨by rw [e.out]; rfl,rfl⟩
      ·have e:=Hj (hnd.out k hks hlt (by unfold dgt; simp; omega))
       have h2 : 48 ≤ s[k].toNat:=by omega
       clear htk; go_wp2; go_ret; exact ⟨by rw [e.out]; rfl,rfl⟩
      ·have e : Hid (∀ i,(hi : i < (bs s).length) → i < k + 1 → dgt (bs s)[i] = true):=fun i hi hik => by
        rcases Nat.eq_or_lt_of_le (Nat.lt_succ_iff.1 hik) with rfl | h3
        ·rw [bs_at s i hks hi]; unfold dgt; simp; omega
        ·exact hall.out i hi h3
       obtain ⟨d,hd⟩ : ∃ d,s[k].toNat = 48 + d:=⟨s[k].toNat - 48,by omega⟩
       have hd9 : d ≤ 9:=by omega
       have hv2:=Hj (show 10 * m + d = dval ((bs s).take (k + 1)) by rw [htk,dval_snoc,← hmv.out,hd]; omega)
       have hp2:=Hj (show 10 * m + d + 1 ≤ 10 ^ (k + 1) by rw [Nat.pow_succ]; have:=hmp.out; omega)
       clear htk; go_wp2; go_round
       case rel => exact ⟨k + 1,10 * m + d,by go_num,by omega,by go_num,by omega,hp2,hv2,e⟩
       case measure => simp only [intOf]; omega
     ·obtain rfl : k = 3:=by omega
      have hst:=hyes.out (fun i hi h => hall.out i hi h); rw [← hmv.out] at hst
      obtain ⟨hB,hV⟩:=hst
      have hres : Hid (stA (bs s) = if cln ((bs s).drop 4) = true ∧ 100 ≤ m ∧ m ≤ 599 then (m : Int) else 0):=by
       show _ = _
       unfold stA
       rw [hB,hV]
       by_cases c1 : cln ((bs s).drop 4) = true
       ·by_cases c2 : 100 ≤ m
        ·by_cases c3 : m ≤ 599
         ·rw [if_pos (by rw [c1,decide_eq_true c2,decide_eq_true c3]; rfl),if_pos ⟨c1,c2,c3⟩]
         ·rw [if_neg (by rw [c1,decide_eq_true c2,decide_eq_false c3]; decide),if_neg (fun h => c3 h.2.2)]
        ·rw [if_neg (by rw [c1,decide_eq_false c2]; simp),if_neg (fun h => c2 h.2.1)]
       ·rw [if_neg (by simp [c1]),if_neg (fun h => c1 h.1)]
      clear hB hV hmp hmv hall; go_wp2; go_loop [5] (fun i => ∃ j : Nat,i = .int .i64 (j : Int) ∧ 3 ≤ j ∧ j ≤ s.size ∧ Hid (∀ i,(hi : i < s.size) → 3 ≤ i → i < j → ctl s[i] = false)) (fun i => s.size - (intOf i).toNat)
      case atStart => exact ⟨3,rfl,by omega,by omega,Hj (fun i _ h1 h2 => absurd h1 (by omega))⟩
      case round =>
       obtain ⟨j,rfl,hj3,hj,ha⟩:=hrel
       by_cases hjl : j < s.size
       ·exact absurd hjl (by omega)
       ·obtain rfl : j = s.size:=by omega
        have hcl : cln ((bs s).drop 4) = true:=by
         unfold cln
         rw [List.all_eq_true]
         intro x hx; obtain ⟨q,hq,rfl⟩:=List.mem_iff_getElem.1 hx
         rw [List.length_drop] at hq
         rw [List.getElem_drop,bs_at s (4 + q) (by omega),ha.out (4 + q) (by omega) (by omega) (by omega)]; rfl
        have hr : stA (bs s) = if 100 ≤ m ∧ m ≤ 599 then (m : Int) else 0:=by
         rw [hres.out]
         by_cases hx : 100 ≤ m ∧ m ≤ 599
         ·rw [if_pos ⟨hcl,hx⟩,if_pos hx]
         ·rw [if_neg (fun h => hx h.2),if_neg hx]
        replace hcl:=Hj hcl; clear ha; by_cases v1 : 100 ≤ m
        ·by_cases v2 : m ≤ 599
         ·rw [if_pos ⟨v1,v2⟩] at hr
          have e:=Hj hr; clear hr; have g5 : ¬ (m : Int) < 100:=by omega
          have g6 : ¬ (m : Int) > 599:=by omega
          go_wp2; go_ret; exact ⟨by rw [e.out]; rfl,rfl⟩
         ·rw [if_neg (fun h => v2 h.2)] at hr
          have e:=Hj hr; clear hr; have g5 : ¬ (m : Int) < 100:=by omega
          have g6 : (m : Int) > 599:=by omega
          go_wp2; go_ret; exact ⟨by rw [e.out]; rfl,rfl⟩
        ·rw [if_neg (fun h => v1 h.1)] at hr
         have e:=Hj hr; clear hr; have g5 : (m : Int) < 100:=by omega
         go_wp2; go_ret; exact ⟨by rw [e.out]; rfl,rfl⟩
   ·have g2 : (3 : Int) < (s.size : Int):=by omega
    have q1 : ((s[3].toNat : Int) != 32) = false:=by rw [hx]; rfl
    replace hx:=Hj hx; go_enter Tryz.func69,Tryz.ntmps69
    go_wp2; go_loop [3,4] (fun n i => ∃ k m : Nat,i = .int .i64 (k : Int) ∧ k ≤ 3 ∧ n = .int .i64 (m : Int) ∧ m ≤ 1000 ∧ Hid (m + 1 ≤ 10 ^ k) ∧ Hid (m = dval ((bs s).take k)) ∧ Hid (∀ i,(hi : i < (bs s).length) → i < k → dgt (bs s)[i] = true)) (fun _ i => 3 - (intOf i).toNat)
    case atStart => exact ⟨0,0,rfl,by omega,rfl,by omega,Hj (by decide),Hj rfl,Hj (fun i _ h => absurd h (Nat.not_lt_zero i))⟩
    case round =>
     obtain ⟨k,m,rfl,hk,rfl,hm,hmp,hmv,hall⟩:=hrel
     by_cases hlt : k < 3
     ·have hks : k < s.size:=by omega
      have hm9 : m ≤ 99:=by
       have h1:=hmp.out; have h2 : 10 ^ k ≤ 10 ^ 2:=Nat.pow_le_pow_right (by decide) (by omega)
       omega
      have htk:=take_at s k hks; have key : s[k].toNat < 48 ∨ 57 < s[k].toNat ∨ (48 ≤ s[k].toNat ∧ s[k].toNat ≤ 57):=by omega
      rcases key with h | h | ⟨h,h'⟩
      ·have e:=Hj (hnd.out k hks hlt (by unfold dgt; simp; omega))
       clear htk; go_wp2; go_ret; exact ⟨by rw [e.out]; rfl,rfl⟩
      ·have e:=Hj (hnd.out k hks hlt (by unfold dgt; simp; omega))
       have h2 : 48 ≤ s[k].toNat:=by omega
       clear htk; go_wp2; go_ret; exact ⟨by rw [e.out]; rfl,rfl⟩
      ·have e : Hid (∀ i,(hi : i < (bs s).length) → i < k + 1 → dgt (bs s)[i] = true):=fun i hi hik => by
        rcases Nat.eq_or_lt_of_le (Nat.lt_succ_iff.1 hik) with rfl | h3
        ·rw [bs_at s i hks hi]; unfold dgt; simp; omega
        ·exact hall.out i hi h3
       obtain ⟨d,hd⟩ : ∃ d,s[k].toNat = 48 + d:=⟨s[k].toNat - 48,by omega⟩
       have hd9 : d ≤ 9:=by omega
       have hv2:=Hj (show 10 * m + d = dval ((bs s).take (k + 1)) by rw [htk,dval_snoc,← hmv.out,hd]; omega)
       have hp2:=Hj (show 10 * m + d + 1 ≤ 10 ^ (k + 1) by rw [Nat.pow_succ]; have:=hmp.out; omega)
       clear htk; go_wp2; go_round
       case rel => exact ⟨k + 1,10 * m + d,by go_num,by omega,by go_num,by omega,hp2,hv2,e⟩
       case measure => simp only [intOf]; omega
     ·obtain rfl : k = 3:=by omega
      have hst:=hyes.out (fun i hi h => hall.out i hi h); rw [← hmv.out] at hst
      obtain ⟨hB,hV⟩:=hst
      have hres : Hid (stA (bs s) = if cln ((bs s).drop 4) = true ∧ 100 ≤ m ∧ m ≤ 599 then (m : Int) else 0):=by
       show _ = _
       unfold stA
       rw [hB,hV]
       by_cases c1 : cln ((bs s).drop 4) = true
       ·by_cases c2 : 100 ≤ m
        ·by_cases c3 : m ≤ 599
         ·rw [if_pos (by rw [c1,decide_eq_true c2,decide_eq_true c3]; rfl),if_pos ⟨c1,c2,c3⟩]
         ·rw [if_neg (by rw [c1,decide_eq_true c2,decide_eq_false c3]; decide),if_neg (fun h => c3 h.2.2)]
        ·rw [if_neg (by rw [c1,decide_eq_false c2]; simp),if_neg (fun h => c2 h.2.1)]
       ·rw [if_neg (by simp [c1]),if_neg (fun h => c1 h.1)]
      clear hB hV hmp hmv hall; go_wp2; go_loop [5] (fun i => ∃ j : Nat,i = .int .i64 (j : Int) ∧ 3 ≤ j ∧ j ≤ s.size ∧ Hid (∀ i,(hi : i < s.size) → 3 ≤ i → i < j → ctl s[i] = false)) (fun i => s.size - (intOf i).toNat)
      case atStart => exact ⟨3,rfl,by omega,by omega,Hj (fun i _ h1 h2 => absurd h1 (by omega))⟩
      case round =>
       obtain ⟨j,rfl,hj3,hj,ha⟩:=hrel
       by_cases hjl : j < s.size
       ·have key : s[j].toNat < 32 ∧ s[j].toNat ≠ 9 ∨ s[j].toNat = 9 ∨ s[j].toNat = 127 ∨ (32 ≤ s[j].toNat ∧ s[j].toNat ≠ 127):=by omega
        have no : ctlN s[j].toNat = false → Hid (∀ i,(hi : i < s.size) → 3 ≤ i → i < j + 1 → ctl s[i] = false):=fun ht i hi h1 h2 => by
         rcases Nat.eq_or_lt_of_le (Nat.lt_succ_iff.1 h2) with rfl | h3
         ·exact ht
         ·exact ha.out i hi h1 h3
        have yes : ctlN s[j].toNat = true → Hid (stA (bs s) = 0):=fun ht => by
         show _ = _
         rw [hres.out,if_neg (fun h => by rw [hmain.out j hjl ht hj3] at h; cases h.1)]
        rcases key with h | h | h | h
        ·have e:=yes (by unfold ctlN; simp [h.1,h.2])
         have h0:=h.1; have h1 : ((s[j].toNat : Int) != 9) = true:=by rw [bne,show ((s[j].toNat : Int) == 9) = false from beq_cast_false h.2]; rfl
         clear no yes; replace h:=Hj h; go_wp2; go_ret; exact ⟨by rw [e.out]; rfl,rfl⟩
        ·have e:=no (by rw [h]; rfl)
         have h1 : ((s[j].toNat : Int) != 9) = false:=by rw [h]; rfl
         have h2 : ((s[j].toNat : Int) == 127) = false:=beq_cast_false (show s[j].toNat ≠ 127 by omega)
         have h3' : s[j].toNat < 32:=by omega
         replace h:=Hj h; clear no yes; go_wp2; go_round
         case rel => exact ⟨j + 1,by go_num,by omega,by omega,e⟩
         case measure => simp [intOf]; omega
        ·have e:=yes (by rw [h]; rfl)
         have h2 : ((s[j].toNat : Int) == 127) = true:=beq_cast_true h
         have h3' : ¬ s[j].toNat < 32:=by omega
         replace h:=Hj h; clear no yes; go_wp2; go_ret; exact ⟨by rw [e.out]; rfl,rfl⟩
        ·have e:=no (by unfold ctlN; simp; omega)
         have h0:=h.1; have h2 : ((s[j].toNat : Int) == 127) = false:=beq_cast_false h.2
         replace h:=Hj h; clear no yes; go_wp2; go_round
         case rel => exact ⟨j + 1,by go_num,by omega,by omega,e⟩
         case measure => simp [intOf]; omega
       ·obtain rfl : j = s.size:=by omega
        have hcl : cln ((bs s).drop 4) = true:=by
         unfold cln
         rw [List.all_eq_true]
         intro x hx; obtain ⟨q,hq,rfl⟩:=List.mem_iff_getElem.1 hx
         rw [List.length_drop] at hq
         rw [List.getElem_drop,bs_at s (4 + q) (by omega),ha.out (4 + q) (by omega) (by omega) (by omega)]; rfl
        have hr : stA (bs s) = if 100 ≤ m ∧ m ≤ 599 then (m : Int) else 0:=by
         rw [hres.out]
         by_cases hx : 100 ≤ m ∧ m ≤ 599
         ·rw [if_pos ⟨hcl,hx⟩,if_pos hx]
         ·rw [if_neg (fun h => hx h.2),if_neg hx]
        replace hcl:=Hj hcl; clear ha; by_cases v1 : 100 ≤ m
        ·by_cases v2 : m ≤ 599
         ·rw [if_pos ⟨v1,v2⟩] at hr
          have e:=Hj hr; clear hr; have g5 : ¬ (m : Int) < 100:=by omega
          have g6 : ¬ (m : Int) > 599:=by omega
          go_wp2; go_ret; exact ⟨by rw [e.out]; rfl,rfl⟩
         ·rw [if_neg (fun h => v2 h.2)] at hr
          have e:=Hj hr; clear hr; have g5 : ¬ (m : Int) < 100:=by omega
          have g6 : (m : Int) > 599:=by omega
          go_wp2; go_ret; exact ⟨by rw [e.out]; rfl,rfl⟩
        ·rw [if_neg (fun h => v1 h.1)] at hr
         have e:=Hj hr; clear hr; have g5 : (m : Int) < 100:=by omega
         go_wp2; go_ret; exact ⟨by rw [e.out]; rfl,rfl⟩
end Go.Proofs.YtibcbaghgpemfaaGreatDoor
namespace Go.Proofs.YtibcbaghgpemfaaGreatDoor
open Go.RowKit Syn Fr Hd Ck
namespace Hd
def FdR (w : World) (L : List (List UInt8)) (e : Ending) (w' : World) : Prop :=
 ((hdsE L ≠ 0 ∧ e = .returned (.tuple #[.slice none 0 0,.int .i64 (hdsE L)])) ∨ (hdsE L = 0 ∧ ∃ o,e = .returned (.tuple #[o,.int .i64 0]) ∧ Own w' w.heap.size 170 2 o (L.map hdV).length (prs (L.map hdV)))) ∧ Below w.heap.size w w'
theorem FdR.bad {w w' : World} {L : List (List UInt8)} {n : Int} (h : hdsE L = n) (h0 : n ≠ 0) (hb : Below w.heap.size w w') : FdR w L (.returned (.tuple #[.slice none 0 0,.int .i64 n])) w' :=
 ⟨.inl ⟨by rw [h]; exact h0,by rw [h]⟩,hb⟩
theorem FdR.good {w w' : World} {L : List (List UInt8)} {o : Value} (h : hdsE L = 0) (ho : Own w' w.heap.size 170 2 o (L.map hdV).length (prs (L.map hdV))) (hb : Below w.heap.size w w') : FdR w L (.returned (.tuple #[o,.int .i64 0])) w' :=
 ⟨.inr ⟨h,o,rfl,ho⟩,hb⟩
theorem fst_blank (s : ByteArray) (h : 0 < s.size) : (fst 32 (bs s) = true ∨ fst 9 (bs s) = true) ↔ Syn.blank s[0] = true:=by
 have hh : (bs s).head? = some s[0]:=head_at s h
 unfold fst Syn.blank
 rw [hh,Option.any_some,Option.any_some,decide_eq_true_iff,decide_eq_true_iff,Bool.or_eq_true,beq_iff_eq,beq_iff_eq]
theorem fst_none (s : ByteArray) (h : s.size = 0) : ¬ (fst 32 (bs s) = true ∨ fst 9 (bs s) = true) ∧ ((bs s).dropWhile (· != 58)).isEmpty = true:=by
 have e : bs s = []:=List.eq_nil_of_length_eq_zero (by rw [bs_length]; exact h)
 rw [e]
 exact ⟨(by rintro (h | h) <;> cases h),rfl⟩
end Hd
set_option maxRecDepth 100000 in
set_option maxHeartbeats 16000000 in
theorem rfields_any (L : List (List UInt8)) (v : Value) (w : World) (hR : Rd w 1 v L.length (strs L)) (hs : ∀ l ∈ L,l.length ≤ 1000000) (hm : L.length ≤ 1000) :
  Calls Tryz.prog 70 #[v] w (FdR w L):=by
 obtain ⟨A,cap,rfl,hcap,-,-⟩:=id hR; replace hR:=Hj hR; replace hs:=Hj hs; go_enter Tryz.func70,Tryz.ntmps70
 go_wp2; go_loopw [4,5] (fun o i wr => ∃ k : Nat,i = .int .i64 (k : Int) ∧ k ≤ L.length ∧ Hid ((L.take k).all (fun l => decide (hdE l = 0)) = true) ∧ Hid (Own wr w.heap.size 170 2 o k (prs ((L.take k).map hdV))) ∧ Hid (Below w.heap.size w wr)) (fun _ i _ => L.length - (intOf i).toNat)
 case atStart => exact ⟨0,rfl,by omega,Hj rfl,Hj (own_nil _ _ _ _),Hj (Below.refl _ _)⟩
 case round =>
  obtain ⟨k,rfl,hk,hall,ho,hB⟩:=hrel
  have hBw:=hB.out.size; obtain ⟨Ao,co,rfl,-⟩:=Rd.own ho.out
  by_cases hlt : k < L.length
  ·obtain ⟨A',cap',e',-,-,r'⟩:=hR.out.below hB.out
   cases e'; obtain ⟨b1,o1,rfl,_,x1⟩:=r' (by omega)
   have d1 : wr.cell? ⟨b1,o1 + k,none⟩ = some (.string (str L[k])):=x1 _ _ (strs_at hlt)
   have hsh:=hs.out L[k] (List.getElem_mem hlt); have hdr:=hdsE_drop hall.out; rw [List.drop_eq_getElem_cons hlt,hdsE] at hdr
   have htk : (L.take (k + 1)).map hdV = (L.take k).map hdV ++ [hdV L[k]]:=by rw [List.take_succ_eq_append_getElem hlt,List.map_append]; rfl
   have hal2 : hdE L[k] = 0 → (L.take (k + 1)).all (fun l => decide (hdE l = 0)) = true:=fun h => by
    rw [List.take_succ_eq_append_getElem hlt,List.all_append,hall.out]; simp [h]
   clear x1 r'; generalize L[k] = l at *; obtain ⟨s,rfl⟩ : ∃ s,l = bs s:=⟨str l,(bs_str l).symm⟩
   rw [str_bs] at d1
   rw [bs_length] at hsh
   have hpr:=Hj (prs_snoc ((L.take k).map hdV) (hdV (bs s))); have hE : hdE (bs s) = if fst 32 (bs s) = true ∨ fst 9 (bs s) = true then 23 else if ((bs s).dropWhile (· != 58)).isEmpty = true ∨ hdN (bs s) = [] then 25 else if (hdN (bs s)).any Syn.blank = true then 24 else if nmE (hdN (bs s)) ≠ 0 then 25 else if vlE (hdR (bs s)) ≠ 0 then 25 else 0:=rfl
   have hbad : ∀ n : Int,n ≠ 0 → hdE (bs s) = n → Hid (∀ w' : World,Below w.heap.size w w' → FdR w L (.returned (.tuple #[.slice none 0 0,.int .i64 n])) w'):=fun n h0 h => by
    have hdr2:=hdr; rw [h,if_neg h0] at hdr2
    exact fun w' hb => FdR.bad hdr2 h0 hb
   have hgood : hdE (bs s) = 0 → Hid ((L.take (k + 1)).all (fun l => decide (hdE l = 0)) = true) ∧ Hid (hdV (bs s) = (nmV (hdN (bs s)),vlV (hdR (bs s)))):=fun h => ⟨Hj (hal2 h),Hj (if_pos h)⟩
   have hC:=Hj (fun w => rcut_any s 58 w hsh); rw [show (bs s).takeWhile (· != 58) = hdN (bs s) from rfl,show ((bs s).dropWhile (· != 58)).drop 1 = hdR (bs s) from rfl] at hC
   have l1 : (hdN (bs s)).length ≤ 1000000:=by
    have:=(List.takeWhile_prefix (p:=(· != 58)) (l:=bs s)).length_le
    rw [bs_length] at this
    unfold hdN; omega
   have l2 : (hdR (bs s)).length ≤ 1000000:=by
    have:=(List.dropWhile_suffix (p:=(· != 58)) (l:=bs s)).length_le
    rw [bs_length] at this
    unfold hdR; rw [List.length_drop]; omega
   have hA:=fun w => rspaced_any (str (hdN (bs s))) w (by rw [str_size]; exact l1)
   have hN:=fun w => r2name_any (str (hdN (bs s))) w (by rw [str_size]; omega)
   have hV:=fun w => r2value_any (str (hdR (bs s))) w (by rw [str_size]; omega)
   simp only [bs_str] at hA hN hV
   replace hA:=Hj hA; replace hN:=Hj hN; replace hV:=Hj hV; replace hbad:=Hj hbad; replace hgood:=Hj hgood; replace htk:=Hj htk; replace hsh:=Hj hsh; clear hdr hal2 l1 l2; generalize hdN (bs s) = nm at *; generalize hdR (bs s) = vl at *; by_cases z : s.size = 0
   ·obtain ⟨n1,n2⟩:=fst_none s z
    rw [if_neg n1,if_pos (.inl n2)] at hE
    have hF:=hbad.out _ (by decide) hE; rw [n2] at hC
    have e : bs s = []:=List.eq_nil_of_length_eq_zero (by rw [bs_length]; exact z)
    have q0 : (s.toList == []) = true:=by rw [toList_bs,e]; rfl
    have q1 : (s.toList != []) = false:=by rw [toList_bs,e]; rfl
    have q2 : s.toList.isEmpty = true:=by rw [toList_bs,e]; rfl
    replace hE:=Hj hE; replace e:=Hj e; replace z:=Hj z; clear n1 n2; generalize str nm = sn at *; generalize str vl = sv at *; go_wp2_with fail
    refine (hC.out _).mono ?_
    rintro e w1 ⟨rfl,n1,rfl⟩
    have hB:=Hj (below_drewN hB.out n1); have ho:=Hj (own_drewN ho.out n1); go_wp2; go_ret2
    exact hF.out _ hB.out
   ·have zp : 0 < s.size:=by omega
    have e : bs s ≠ []:=fun h => z (by rw [← bs_length,h]; rfl)
    have q0 : (s.toList == []) = false:=by rw [toList_bs,beq_eq_false_iff_ne]; exact e
    have q1 : (s.toList != []) = true:=by rw [bne,q0]; rfl
    have q2 : s.toList.isEmpty = false:=by rw [toList_bs]; cases hbs : bs s with | nil => exact absurd hbs e | cons a b => rfl
    have hfb:=fst_blank s zp; have hW:=Hj (fun w => rwhite_any s[0] w); replace e:=Hj e; replace z:=Hj z; by_cases hbl : Syn.blank s[0] = true
    ·rw [if_pos (hfb.2 hbl)] at hE
     have hF:=hbad.out _ (by decide) hE; rw [hbl] at hW
     replace hE:=Hj hE; replace hbl:=Hj hbl; clear hfb; generalize str nm = sn at *; generalize str vl = sv at *; go_wp2_with fail
     refine (hW.out _).mono ?_
     rintro e w1 ⟨rfl,rfl⟩
     go_wp2; go_ret2
     exact hF.out _ hB.out
    ·rw [if_neg (fun h => hbl (hfb.1 h))] at hE
     have hbf : Syn.blank s[0] = false:=by simpa using hbl
     rw [hbf] at hW
     replace hbf:=Hj hbf; replace hbl:=Hj hbl; clear hfb; generalize ((bs s).dropWhile (· != 58)).isEmpty = em at *; cases em with
     | true =>
      rw [if_pos (.inl rfl)] at hE
      have hF:=hbad.out _ (by decide) hE; replace hE:=Hj hE; generalize str nm = sn at *; generalize str vl = sv at *; go_wp2_with fail
      refine (hW.out _).mono ?_
      rintro e w1 ⟨rfl,rfl⟩
      go_wp2_with fail
      refine (hC.out _).mono ?_
      rintro e w1 ⟨rfl,n1,rfl⟩
      have hB:=Hj (below_drewN hB.out n1); have ho:=Hj (own_drewN ho.out n1); go_wp2; go_ret2
      exact hF.out _ hB.out
     | false =>
      by_cases k3 : nm = []
      ·rw [if_pos (.inr k3)] at hE
       have hF:=hbad.out _ (by decide) hE; have p1 : ((str nm).toList == []) = true:=by rw [str_toList,k3]; rfl
       have p2 : (str nm).toList.isEmpty = true:=by rw [str_toList,k3]; rfl
       replace hE:=Hj hE; replace k3:=Hj k3; generalize str nm = sn at *; generalize str vl = sv at *; go_wp2_with fail
       refine (hW.out _).mono ?_
       rintro e w1 ⟨rfl,rfl⟩
       go_wp2_with fail
       refine (hC.out _).mono ?_
       rintro e w1 ⟨rfl,n1,rfl⟩
       have hB:=Hj (below_drewN hB.out n1); have ho:=Hj (own_drewN ho.out n1); go_wp2; go_ret2
       exact hF.out _ hB.out
      ·rw [if_neg (by rintro (h | h); cases h; exact k3 h)] at hE
       have p1 : ((str nm).toList == []) = false:=by rw [str_toList,beq_eq_false_iff_ne]; exact k3
       have p2 : (str nm).toList.isEmpty = false:=by rw [str_toList]; cases nm with | nil => exact absurd rfl k3 | cons a b => rfl
       replace k3:=Hj k3; cases k4 : nm.any Syn.blank with
       | true =>
        rw [if_pos k4] at hE
        rw [k4] at hA
        replace k4:=Hj k4; have hF:=hbad.out _ (by decide) hE; replace hE:=Hj hE; generalize str nm = sn at *; generalize str vl = sv at *; go_wp2_with fail
        refine (hW.out _).mono ?_
        rintro e w1 ⟨rfl,rfl⟩
        go_wp2_with fail
        refine (hC.out _).mono ?_
        rintro e w1 ⟨rfl,n1,rfl⟩
        have hB:=Hj (below_drewN hB.out n1); have ho:=Hj (own_drewN ho.out n1); go_wp2_with fail
        refine (hA.out _).mono ?_
        rintro e w1 ⟨rfl,rfl⟩
        go_wp2; go_ret2
        exact hF.out _ hB.out
       | false =>
        rw [if_neg (by rw [k4]; decide)] at hE
        rw [k4] at hA
        replace k4:=Hj k4; by_cases k5 : nmE nm = 0
        ·rw [if_neg (fun h => h k5)] at hE
         rw [k5] at hN
         replace k5:=Hj k5; by_cases k6 : vlE vl = 0
         ·rw [if_neg (fun h => h k6)] at hE
          rw [k6] at hV
          replace k6:=Hj k6; obtain ⟨hal3,hvv⟩:=hgood.out hE
          rw [hvv.out] at hpr
          replace hE:=Hj hE; replace htk:=Hj (show (L.take (k + 1)).map hdV = (L.take k).map hdV ++ [(nmV nm,vlV vl)] by rw [htk.out,hvv.out]); generalize nmV nm = nn at *; generalize vlV vl = nv at *; generalize str nm = sn at *; generalize str vl = sv at *; go_wp2_with fail
          refine (hW.out _).mono ?_
          rintro e w1 ⟨rfl,rfl⟩
          go_wp2_with fail
          refine (hC.out _).mono ?_
          rintro e w1 ⟨rfl,n1,rfl⟩
          have hB:=Hj (below_drewN hB.out n1); have ho:=Hj (own_drewN ho.out n1); go_wp2_with fail
          refine (hA.out _).mono ?_
          rintro e w1 ⟨rfl,rfl⟩
          go_wp2_with fail
          refine (hN.out _).mono ?_
          rintro e w2 ⟨rfl,hb2⟩
          have hB2:=Hj (Below.next hB.out hBw hb2); have ho2:=Hj (own_below ho.out hb2); clear hb2; go_wp2_with fail
          refine (hV.out _).mono ?_
          rintro e w3 ⟨rfl,hb3⟩
          have hB3:=Hj (Below.next hB2.out hB2.out.size hb3); have ho3:=Hj (own_below ho2.out hb3); clear hb3; go_wp2_with (at_builtin; refine push_pair 60 170 Tryz.underlying60 infoR2b _ _ rfl rfl rfl ho3.out rfl rfl rfl (by omega) hB3.out.size ?_; intro v7 w7 ho7 hb7; replace ho7:=Hj ho7; have hB7:=Hj (hB3.out.trans hb7); clear hb7)
          go_roundw
          case rel => exact ⟨k + 1,by go_num,by omega,hal3,Hj (by rw [htk.out,hpr.out]; exact ho7.out),hB7⟩
          case measure => simp only [intOf]; omega
         ·rw [if_pos k6] at hE
          have hF:=hbad.out _ (by decide) hE; have t1 : (vlE vl != 0) = true:=by simpa using k6
          replace hE:=Hj hE; replace k6:=Hj k6; generalize vlE vl = ve at *; generalize nmV nm = nn at *; generalize vlV vl = nv at *; generalize str nm = sn at *; generalize str vl = sv at *; go_wp2_with fail
          refine (hW.out _).mono ?_
          rintro e w1 ⟨rfl,rfl⟩
          go_wp2_with fail
          refine (hC.out _).mono ?_
          rintro e w1 ⟨rfl,n1,rfl⟩
          have hB:=Hj (below_drewN hB.out n1); have ho:=Hj (own_drewN ho.out n1); go_wp2_with fail
          refine (hA.out _).mono ?_
          rintro e w1 ⟨rfl,rfl⟩
          go_wp2_with fail
          refine (hN.out _).mono ?_
          rintro e w2 ⟨rfl,hb2⟩
          have hB2:=Hj (Below.next hB.out hBw hb2); have ho2:=Hj (own_below ho.out hb2); clear hb2; go_wp2_with fail
          refine (hV.out _).mono ?_
          rintro e w3 ⟨rfl,hb3⟩
          have hB3:=Hj (Below.next hB2.out hB2.out.size hb3); have ho3:=Hj (own_below ho2.out hb3); clear hb3; go_wp2; go_ret2
          exact hF.out _ hB3.out
        ·rw [if_pos k5] at hE
         have hF:=hbad.out _ (by decide) hE; have t1 : (nmE nm != 0) = true:=by simpa using k5
         replace hE:=Hj hE; replace k5:=Hj k5; generalize nmE nm = ne at *; generalize vlE vl = ve at *; generalize nmV nm = nn at *; generalize vlV vl = nv at *; generalize str nm = sn at *; generalize str vl = sv at *; go_wp2_with fail
         refine (hW.out _).mono ?_
         rintro e w1 ⟨rfl,rfl⟩
         go_wp2_with fail
         refine (hC.out _).mono ?_
         rintro e w1 ⟨rfl,n1,rfl⟩
         have hB:=Hj (below_drewN hB.out n1); have ho:=Hj (own_drewN ho.out n1); go_wp2_with fail
         refine (hA.out _).mono ?_
         rintro e w1 ⟨rfl,rfl⟩
         go_wp2_with fail
         refine (hN.out _).mono ?_
         rintro e w2 ⟨rfl,hb2⟩
         have hB2:=Hj (Below.next hB.out hBw hb2); have ho2:=Hj (own_below ho.out hb2); clear hb2; go_wp2_with fail
         refine (hV.out _).mono ?_
         rintro e w3 ⟨rfl,hb3⟩
         have hB3:=Hj (Below.next hB2.out hB2.out.size hb3); have ho3:=Hj (own_below ho2.out hb3); clear hb3; go_wp2; go_ret2
         exact hF.out _ hB3.out
  ·obtain rfl : k = L.length:=by omega
   rw [List.take_length] at ho hall
   have hz:=Hj (show hdsE L = 0 by
    have:=hdsE_drop (L:=L) (k:=L.length) (by rw [List.take_length]; exact hall.out)
    rw [this,List.drop_length]; rfl)
   have hlm : (L.map hdV).length = L.length:=List.length_map ..
   replace hlm:=Hj hlm; go_wp2; go_ret2
   exact FdR.good hz.out (by rw [hlm.out]; exact ho.out) hB.out
end Go.Proofs.YtibcbaghgpemfaaGreatDoor
namespace Go.Proofs.YtibcbaghgpemfaaGreatDoor
open Go.RowKit Syn Hd
namespace Hd
def DsR (w : World) (b : List UInt8) (e : Ending) (w' : World) : Prop :=
 ((lnE b ≠ 0 ∧ e = .returned (.tuple #[.slice none 0 0,.int .i64 0,.int .i64 (lnE b)])) ∨
  (lnE b = 0 ∧ ∃ A c,e = .returned (.tuple #[.slice A (lnL b).length c,.int .i64 (endF b),.int .i64 0]) ∧ Rd w' 1 (.slice A (lnL b).length c) (lnL b).length (strs (lnL b)))) ∧ Below w.heap.size w w'
theorem DsR.bad {w w' : World} {b : List UInt8} {n : Int} (h : lnE b = n) (h0 : n ≠ 0) (hb : Below w.heap.size w w') : DsR w b (.returned (.tuple #[.slice none 0 0,.int .i64 0,.int .i64 n])) w' :=
 ⟨.inl ⟨by rw [h]; exact h0,by rw [h]⟩,hb⟩
theorem DsR.good {w w' : World} {b : List UInt8} {A : Option Addr} {c m : Nat} {n : Int} (h : lnE b = 0) (hn : endF b = n) (hm : (lnL b).length = m) (ho : Rd w' 1 (.slice A m c) m (strs (lnL b))) (hb : Below w.heap.size w w') : DsR w b (.returned (.tuple #[.slice A m c,.int .i64 n,.int .i64 0])) w' :=
 ⟨.inr ⟨h,A,c,by rw [hn,hm],by rw [hm]; exact ho⟩,hb⟩
theorem rd_front {w : World} {A : Option Addr} {m c : Nat} {L : List (List UInt8)} {x : List UInt8} (hm : L.length = m) (h : Rd w 1 (.slice A (m + 1) c) (m + 1) (strs (L ++ [x]))) : Rd w 1 (.slice A m c) m (strs L):=by
 obtain ⟨A',c',e,hc,hl,hr⟩:=h
 cases e; refine ⟨_,_,rfl,by omega,by unfold strs; rw [List.length_map,Nat.mul_one,hm],fun hn => ?_⟩
 obtain ⟨b,o,e,hlt,hx⟩:=hr (by omega)
 refine ⟨b,o,e,hlt,fun j u hu => hx j u ?_⟩
 unfold strs at hu ⊢
 rw [List.map_append,List.getElem?_append_left (by
  rcases Nat.lt_or_ge j (L.map fun x => Value.string (str x)).length with h | h
  ·exact h
  ·rw [List.getElem?_eq_none h] at hu; cases hu)]
 exact hu
theorem bs_take (s : ByteArray) (n : Nat) : bs (s.extract 0 n) = (bs s).take n:=by
 have:=ext_list s 0 n
 rw [toList_bs,List.drop_zero] at this
 exact this
theorem endF_no {b : List UInt8} {k : Nat} (h : endF b = ((k + 4 : Nat) : Int)) : Lib.hasPrefix b [13,10] = false:=by
 cases hp : Lib.hasPrefix b [13,10] with
 | false => rfl
 | true => rw [endF_two hp] at h; omega
theorem endF_yes {b : List UInt8} (h : endF b = 2) : b.take 2 = [13,10]:=by
 cases hp : Lib.hasPrefix b [13,10] with
 | false =>
  unfold endF at h
  rw [if_neg (by rw [hp]; decide)] at h
  have:=Lib.index_ge b [13,10,13,10]
  split at h <;> omega
 | true =>
  unfold Lib.hasPrefix at hp
  exact (List.prefix_iff_eq_take.1 (List.isPrefixOf_iff_prefix.1 hp)).symm
end Hd
set_option maxRecDepth 100000 in
set_option maxHeartbeats 8000000 in
theorem rsplit_any (s : ByteArray) (w : World) (hs : s.size ≤ 1000000) :
  Calls Tryz.prog 67 #[.string s] w (DsR w (bs s)):=by
 have hEnd:=Hj (rend_any s w hs); have hsz : s.size = (bs s).length:=(bs_length s).symm
 rcases endF_cases (bs s) with h1 | ⟨h1,h1'⟩ | ⟨k,h1,h3⟩
 ·rw [show endD (bs s) = 0 by unfold endD; rw [h1]; rfl] at hEnd
  by_cases h8 : s.size < 8192
  ·have hE:=Hj (DsR.bad (w:=w) (w':=w) (show lnE (bs s) = 21 by unfold lnE; rw [h1,if_pos ⟨by decide,by omega⟩]) (by decide) (Below.refl _ _))
   have g1 : (s.size : Int) < 8192:=by omega
   clear hsz; go_enter Tryz.func67,Tryz.ntmps67
   go_wp2_with fail
   refine hEnd.out.mono ?_
   rintro e w1 ⟨rfl,rfl⟩
   go_wp2; go_ret3
   exact hE.out
  ·have hE:=Hj (DsR.bad (w:=w) (w':=w) (show lnE (bs s) = 5 by unfold lnE; rw [h1,if_neg (fun h => h8 (by have:=h.2; omega)),if_pos (.inl (by decide))]) (by decide) (Below.refl _ _))
   have g1 : ¬ (s.size : Int) < 8192:=by omega
   clear hsz; go_enter Tryz.func67,Tryz.ntmps67
   go_wp2_with fail
   refine hEnd.out.mono ?_
   rintro e w1 ⟨rfl,rfl⟩
   go_wp2; go_ret3
   exact hE.out
 ·rw [show endD (bs s) = 2 by unfold endD; rw [h1]; rfl] at hEnd
  have hE:=Hj (fun w' hb => DsR.bad (w:=w) (w':=w') (show lnE (bs s) = 22 by unfold lnE; rw [h1,if_neg (by omega),if_neg (by omega),if_pos rfl]) (by decide) hb)
  have hL:=fun w => rlines_any (s.extract 0 2) w (by rw [ByteArray.size_extract]; omega)
  rw [bs_take,endF_yes h1,show dln [] [13,10] = [[]] from rfl] at hL
  replace hL:=Hj hL; have g1 : (2 : Int) ≤ (s.size : Int):=by omega
  clear hsz; go_enter Tryz.func67,Tryz.ntmps67
  go_wp2_with fail
  refine hEnd.out.mono ?_
  rintro e w1 ⟨rfl,rfl⟩
  go_wp2_with fail
  refine (hL.out _).mono ?_
  rintro e w2 ⟨o,rfl,ho,hb⟩
  obtain ⟨Ao,co,rfl,-⟩:=Rd.own ho
  replace ho:=Hj ho; replace hb:=Hj hb; go_wp2; go_ret3
  exact hE.out _ hb.out
 ·rw [show endD (bs s) = ((k + 4 : Nat) : Int) by unfold endD; rw [h1,if_neg (by omega)]] at hEnd
  have hnp:=endF_no h1; have hlines:=dsp_lines h1 hnp; have hE:=dsp_err hnp (by rw [h1]; omega)
  rw [h1,show (((k + 4 : Nat) : Int)).toNat = k + 4 from rfl,hlines] at hE
  have hL:=fun w => rlines_any (s.extract 0 (k + 4)) w (by rw [ByteArray.size_extract]; omega)
  rw [bs_take,hlines] at hL
  have hBa:=fun w => rbare_any (s.extract 0 (k + 4)) w (by rw [ByteArray.size_extract]; omega)
  rw [bs_take] at hBa
  obtain ⟨m,hm⟩ : ∃ m,(lnL (bs s)).length = m:=⟨_,rfl⟩
  have hlen : (lnL (bs s) ++ [[]]).length = m + 1:=by rw [List.length_append,hm]; rfl
  rw [hlen] at hL hE
  have hmost : m ≤ 1000001:=by
   have h5 : (lnL (bs s)).length ≤ (bs s).length + 1:=by
    have h4:=spl_len (str ((bs s).take ((endF (bs s)).toNat - 4))); rw [bs_str,str_size,List.length_take] at h4
    show (spl _).length ≤ _
    omega
   omega
  obtain ⟨K,hK⟩ : ∃ K,k + 4 = K:=⟨_,rfl⟩
  rw [hK] at hEnd hL hBa hE h1 h3
  have hK4 : 4 ≤ K:=by omega
  have g1 : (K : Int) ≤ (s.size : Int):=by omega
  have g2 : ¬ (K : Int) = 0:=by omega
  have g3 : ¬ (K : Int) = 2:=by omega
  have e3 : ((K : Int) == 2) = false:=beq_false_of_ne g3
  have e0 : ((K : Int) == 0) = false:=beq_false_of_ne g2
  have hgood:=Hj (fun (h : lnE (bs s) = 0) (w' : World) (A : Option Addr) (c : Nat) (ho : Rd w' 1 (.slice A (m + 1) c) (m + 1) (strs (lnL (bs s) ++ [[]]))) (hb : Below w.heap.size w w') => DsR.good (w:=w) h h1 hm (rd_front hm ho) hb); have hbad:=Hj (fun (n : Int) (h : lnE (bs s) = n) (h0 : n ≠ 0) (w' : World) (hb : Below w.heap.size w w') => DsR.bad (w:=w) h h0 hb); replace hL:=Hj hL; replace hm:=Hj hm; clear hsz hK hlines hlen; replace h1:=Hj h1; by_cases c1 : 8192 < K
  ·rw [if_pos (.inl (by omega))] at hE
   replace hE:=Hj hE; have g4 : (K : Int) > 8192:=by omega
   replace hBa:=Hj hBa; go_enter Tryz.func67,Tryz.ntmps67
   go_wp2_with fail
   refine hEnd.out.mono ?_
   rintro e w1 ⟨rfl,rfl⟩
   go_wp2_with fail
   refine (hL.out _).mono ?_
   rintro e w2 ⟨o,rfl,ho,hb⟩
   obtain ⟨Ao,co,rfl,-⟩:=Rd.own ho
   replace ho:=Hj ho; replace hb:=Hj hb; go_wp2; go_ret3
   exact hbad.out _ hE.out (by decide) _ hb.out
  ·have g4 : ¬ (K : Int) > 8192:=by omega
   by_cases c2 : 64 + 2 < m + 1
   ·rw [if_pos (.inr (by omega))] at hE
    replace hE:=Hj hE; have g5 : (m : Int) + 1 - 2 > 64:=by omega
    replace hBa:=Hj hBa; go_enter Tryz.func67,Tryz.ntmps67
    go_wp2_with fail
    refine hEnd.out.mono ?_
    rintro e w1 ⟨rfl,rfl⟩
    go_wp2_with fail
    refine (hL.out _).mono ?_
    rintro e w2 ⟨o,rfl,ho,hb⟩
    obtain ⟨Ao,co,rfl,-⟩:=Rd.own ho
    replace ho:=Hj ho; replace hb:=Hj hb; go_wp2; go_ret3
    exact hbad.out _ hE.out (by decide) _ hb.out
   ·rw [if_neg (by omega)] at hE
    have g5 : ¬ (m : Int) + 1 - 2 > 64:=by omega
    cases c3 : strB ((bs s).take K) with
    | false =>
     rw [if_pos c3] at hE
     rw [c3] at hBa
     replace hBa:=Hj hBa; replace hE:=Hj hE; replace c3:=Hj c3; go_enter Tryz.func67,Tryz.ntmps67
     go_wp2_with fail
     refine hEnd.out.mono ?_
     rintro e w1 ⟨rfl,rfl⟩
     go_wp2_with fail
     refine (hL.out _).mono ?_
     rintro e w2 ⟨o,rfl,ho,hb⟩
     obtain ⟨Ao,co,rfl,-⟩:=Rd.own ho
     replace ho:=Hj ho; replace hb:=Hj hb; go_wp2_with fail
     refine (hBa.out _).mono ?_
     rintro e w3 ⟨rfl,rfl⟩
     go_wp2; go_ret3
     exact hbad.out _ hE.out (by decide) _ hb.out
    | true =>
     rw [if_neg (by rw [c3]; decide)] at hE
     rw [c3] at hBa
     replace hBa:=Hj hBa; replace hE:=Hj hE; replace c3:=Hj c3; go_enter Tryz.func67,Tryz.ntmps67
     go_wp2_with fail
     refine hEnd.out.mono ?_
     rintro e w1 ⟨rfl,rfl⟩
     go_wp2_with fail
     refine (hL.out _).mono ?_
     rintro e w2 ⟨o,rfl,ho,hb⟩
     have hrd:=Rd.own ho; obtain ⟨Ao,co,rfl,hco,-⟩:=id hrd; replace hrd:=Hj hrd; replace ho:=Hj ho; replace hb:=Hj hb; go_wp2_with fail
     refine (hBa.out _).mono ?_
     rintro e w3 ⟨rfl,rfl⟩
     have g6 : m ≤ co:=by omega
     go_wp2; go_ret3
     exact hgood.out hE.out _ _ _ hrd.out hb.out
end Go.Proofs.YtibcbaghgpemfaaGreatDoor
