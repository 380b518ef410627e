import Derived.Test.YtjffffpfejmoiaaGreatDoorGLow
import Derived.Test.YtjffffpfejmoiaaGreatDoorGWr
import Derived.Test.YtjffffpfejmoiaaGreatDoorShelfSplit
import Derived.Deep.DeepCutAuto
namespace Go.Proofs.YtjffffpfejmoiaaGreatDoor
open Go.RowKit Syn
abbrev Bytes:=List UInt8
namespace Fr
def allV (L : List (Bytes × Bytes)) (name : Bytes) : List Bytes:=(L.filter fun p => decide (Syn.lower p.1 = Syn.lower name)).map (·.2)
def elemsGo : List Bytes → List Bytes → Option (List Bytes)
 | acc,[] => some acc
 | acc,v :: r => match Syn.list v with | none => none | some l => elemsGo (acc ++ l) r
def cl : Bytes:=[99,111,110,116,101,110,116,45,108,101,110,103,116,104]
def te : Bytes:=[116,114,97,110,115,102,101,114,45,101,110,99,111,100,105,110,103]
def ch : Bytes:=[99,104,117,110,107,101,100]
abbrev Out:=(Nat × Nat) × Int
def lengthOf (x : Bytes) : Out:=if (number x).2 = 0 then (if 65536 < (number x).1 then ((0,0),5) else ((2,(number x).1),0)) else ((0,0),30)
def frameL : Option (List Bytes) → Out
 | some (x :: r) => if r.all (· == x) then lengthOf x else ((0,0),30)
 | _ => ((0,0),30)
def frameC : Option (List Bytes) → Out
 | some [c] => if Syn.lower c = ch then ((3,0),0) else ((0,0),32)
 | _ => ((0,0),32)
def frame (K : Nat) (L : List (Bytes × Bytes)) : Out :=
 if !(allV L cl).isEmpty && !(allV L te).isEmpty then ((0,0),31)
 else if !(allV L te).isEmpty then frameC (elemsGo [] (allV L te))
 else if (allV L cl).isEmpty then ((K,0),0)
 else frameL (elemsGo [] (allV L cl))
theorem elemsGo_cons (acc : List Bytes) (v : Bytes) (r : List Bytes) : elemsGo acc (v :: r) = match Syn.list v with | none => none | some l => elemsGo (acc ++ l) r:=by rw [elemsGo]
theorem allV_take {L : List (Bytes × Bytes)} {k : Nat} (h : k < L.length) (name : Bytes) : allV (L.take (k + 1)) name = allV (L.take k) name ++ (if Syn.lower L[k].1 = Syn.lower name then [L[k].2] else []):=by
 unfold allV
 rw [List.take_succ_eq_append_getElem h,List.filter_append,List.map_append]
 congr 1
 by_cases he : Syn.lower L[k].1 = Syn.lower name
 ·rw [if_pos he,List.filter_cons_of_pos (by simpa using he)]; rfl
 ·rw [if_neg he,List.filter_cons_of_neg (by simpa using he)]; rfl
theorem allV_length (L : List (Bytes × Bytes)) (name : Bytes) : (allV L name).length ≤ L.length:=by
 unfold allV; rw [List.length_map]; exact List.length_filter_le _ _
theorem allV_mem {L : List (Bytes × Bytes)} {name v : Bytes} (h : v ∈ allV L name) : ∃ p ∈ L,v = p.2:=by
 unfold allV at h
 rw [List.mem_map] at h
 obtain ⟨p,hp,rfl⟩:=h
 exact ⟨p,(List.mem_filter.1 hp).1,rfl⟩
structure Few (L : List (Bytes × Bytes)) : Prop where
 len : L.length ≤ 100
 short : ∀ p ∈ L,p.1.length ≤ 5000 ∧ p.2.length ≤ 5000
end Fr
end Go.Proofs.YtjffffpfejmoiaaGreatDoor
namespace Go.Proofs.YtjffffpfejmoiaaGreatDoor
open Go.RowKit Syn Hd Ck
namespace Hd
def upc (c : UInt8) : Bool:=decide (65 ≤ c.toNat) && decide (c.toNat ≤ 90)
def vis (c : UInt8) : Bool:=decide (33 ≤ c.toNat) && decide (c.toNat ≤ 126)
def optB : List UInt8:=[79,80,84,73,79,78,83]
def mthB (l : List UInt8) : Bool:=l.all upc && (decide (1 ≤ l.length) && decide (l.length ≤ 16))
def starB (m l : List UInt8) : Bool:=decide (l = [42]) && decide (m = optB)
def tgtB (m l : List UInt8) : Bool:=l.all vis && (decide (1 ≤ l.length) && decide (l.length ≤ 2048)) && (l.head?.any (fun c => decide (c.toNat = 47)) || starB m l)
theorem mthB_fail {l : List UInt8} (h : l.all upc = false) : mthB l = false:=by unfold mthB; rw [h]; rfl
theorem mthB_done {l : List UInt8} {n : Nat} (h : l.all upc = true) (hn : l.length = n) : mthB l = (decide (1 ≤ n) && decide (n ≤ 16)):=by unfold mthB; rw [h,hn]; rfl
theorem tgtB_fail {m l : List UInt8} (h : l.all vis = false) : tgtB m l = false:=by unfold tgtB; rw [h]; rfl
theorem tgtB_done {m l : List UInt8} {n : Nat} (h : l.all vis = true) (hn : l.length = n) : tgtB m l = ((decide (1 ≤ n) && decide (n ≤ 2048)) && (l.head?.any (fun c => decide (c.toNat = 47)) || starB m l)):=by unfold tgtB; rw [h,hn]; rfl
theorem head_at (s : ByteArray) (h : 1 ≤ s.size) : (bs s).head? = some s[0]:=by
 have:=byte_at s 0 h
 rw [← this]; cases bs s <;> rfl
theorem slash_yes {c : UInt8} (h : c.toNat = 47) : decide (c.toNat = 47) = true:=decide_eq_true h
theorem slash_no {c : UInt8} (h : ¬ c.toNat = 47) : decide (c.toNat = 47) = false:=decide_eq_false h
theorem toList_bs (s : ByteArray) : s.toList = bs s:=by
 have:=str_toList (bs s)
 rw [str_bs] at this; exact this
theorem lit_beq (s : ByteArray) (l : List UInt8) : (s.toList == l) = decide (bs s = l):=by
 rw [toList_bs]
 by_cases h : bs s = l
 ·rw [decide_eq_true h,h]; exact beq_self_eq_true _
 ·rw [decide_eq_false h,beq_eq_false_iff_ne]; exact h
theorem star_eq (m s : ByteArray) : starB (bs m) (bs s) = ((s.toList == [42]) && (m.toList == [79,80,84,73,79,78,83])):=by
 rw [lit_beq,lit_beq]; rfl
end Hd
set_option maxRecDepth 100000 in
set_option maxHeartbeats 2000000 in
theorem method_any (s : ByteArray) (w : World) (hs : s.size ≤ 1000000) :
  Calls Tryz.prog 24 #[.string s] w fun e w' => e = .returned (.bool (mthB (bs s))) ∧ w' = w:=by
 go_enter Tryz.func24,Tryz.ntmps24
 go_wp2; go_loop [3,6] (fun _ i => ∃ k : Nat,i = .int .i64 k ∧ k ≤ s.size ∧ Hid (((bs s).take k).all upc = true)) (fun _ i => s.size - (intOf i).toNat)
 case atStart => exact ⟨0,rfl,by omega,rfl⟩
 case round =>
  obtain ⟨k,rfl,hk,ha⟩:=hrel
  by_cases hlt : k < s.size
  ·have no : upc s[k] = true → Hid (((bs s).take (k + 1)).all upc = true):=fun ht => all_step (p:=upc) hlt ha.out ht
   have yes : upc s[k] = false → Hid (mthB (bs s) = false):=fun ht => Hj (mthB_fail (all_fail hlt ht))
   have key : s[k].toNat < 65 ∨ 90 < s[k].toNat ∨ (65 ≤ s[k].toNat ∧ s[k].toNat ≤ 90):=by omega
   rcases key with h | h | ⟨h,h'⟩
   ·have e:=yes (by unfold upc; simp; omega)
    clear no yes; go_wp2; go_ret; exact ⟨congrArg (fun b => Ending.returned (.bool b)) e.out.symm,rfl⟩
   ·have e:=yes (by unfold upc; simp; omega)
    have h2 : 65 ≤ s[k].toNat:=by omega
    clear no yes; go_wp2; go_ret; exact ⟨congrArg (fun b => Ending.returned (.bool b)) e.out.symm,rfl⟩
   ·have e:=no (by unfold upc; simp; omega)
    clear no yes; go_wp2; go_round
    case rel => exact ⟨k + 1,by go_num,by omega,e⟩
    case measure => simp [intOf]; omega
  ·obtain rfl : k = s.size:=by omega
   have hf:=Hj (mthB_done (all_done ha.out) (bs_length s)); by_cases h1 : 1 ≤ s.size
   ·go_wp2
    go_ret; exact ⟨congrArg (fun b => Ending.returned (.bool b)) (show decide ((s.size : Int) ≤ 16) = mthB (bs s) by rw [hf.out,decide_eq_true h1,Bool.true_and]; exact decide_eq_decide.2 (by omega)),rfl⟩
   ·go_wp2
    go_ret; exact ⟨by rw [hf.out,decide_eq_false h1]; rfl,rfl⟩
set_option maxRecDepth 100000 in
set_option maxHeartbeats 4000000 in
theorem target_any (m s : ByteArray) (w : World) (hs : s.size ≤ 1000000) :
  Calls Tryz.prog 25 #[.string s,.string m] w fun e w' => e = .returned (.bool (tgtB (bs m) (bs s))) ∧ w' = w:=by
 go_enter Tryz.func25,Tryz.ntmps25
 go_wp2; go_loop [5,8] (fun _ i => ∃ k : Nat,i = .int .i64 k ∧ k ≤ s.size ∧ Hid (((bs s).take k).all vis = true)) (fun _ i => s.size - (intOf i).toNat)
 case atStart => exact ⟨0,rfl,by omega,rfl⟩
 case round =>
  obtain ⟨k,rfl,hk,ha⟩:=hrel
  by_cases hlt : k < s.size
  ·have no : vis s[k] = true → Hid (((bs s).take (k + 1)).all vis = true):=fun ht => all_step (p:=vis) hlt ha.out ht
   have yes : vis s[k] = false → Hid (tgtB (bs m) (bs s) = false):=fun ht => Hj (tgtB_fail (all_fail hlt ht))
   have key : s[k].toNat < 33 ∨ 126 < s[k].toNat ∨ (33 ≤ s[k].toNat ∧ s[k].toNat ≤ 126):=by omega
   rcases key with h | h | ⟨h,h'⟩
   ·have e:=yes (by unfold vis; simp; omega)
    clear no yes; go_wp2; go_ret; exact ⟨congrArg (fun b => Ending.returned (.bool b)) e.out.symm,rfl⟩
   ·have e:=yes (by unfold vis; simp; omega)
    have h2 : 33 ≤ s[k].toNat:=by omega
    clear no yes; go_wp2; go_ret; exact ⟨congrArg (fun b => Ending.returned (.bool b)) e.out.symm,rfl⟩
   ·have e:=no (by unfold vis; simp; omega)
    clear no yes; go_wp2; go_round
    case rel => exact ⟨k + 1,by go_num,by omega,e⟩
    case measure => simp [intOf]; omega
  ·obtain rfl : k = s.size:=by omega
   have hf:=Hj (tgtB_done (m:=bs m) (all_done ha.out) (bs_length s)); by_cases h1 : 1 ≤ s.size
   ·by_cases h2 : s.size ≤ 2048
    ·have hb : (bs s).head? = some s[0]:=head_at s h1
     by_cases c1 : s[0].toNat = 47
     ·have q1 : ((s[0].toNat : Int) == 47) = true:=beq_cast_true c1
      have hr:=Hj (show tgtB (bs m) (bs s) = true by rw [hf.out,decide_eq_true h1,decide_eq_true h2,hb,Option.any_some,slash_yes c1]; rfl)
      replace c1:=Hj c1; go_wp2; go_ret; exact ⟨congrArg (fun b => Ending.returned (.bool b)) hr.out.symm,rfl⟩
     ·have q1 : ((s[0].toNat : Int) == 47) = false:=beq_cast_false c1
      have hr:=Hj (show tgtB (bs m) (bs s) = ((s.toList == [42]) && (m.toList == [79,80,84,73,79,78,83])) by rw [hf.out,decide_eq_true h1,decide_eq_true h2,hb,Option.any_some,slash_no c1,star_eq]; rfl)
      replace c1:=Hj c1; cases r1 : (s.toList == [42])
      ·go_wp2
       go_ret; exact ⟨congrArg (fun b => Ending.returned (.bool b)) (show _ = tgtB (bs m) (bs s) by rw [hr.out,r1]; rfl),rfl⟩
      ·cases r2 : (m.toList == [79,80,84,73,79,78,83])
       ·go_wp2
        go_ret; exact ⟨congrArg (fun b => Ending.returned (.bool b)) (show _ = tgtB (bs m) (bs s) by rw [hr.out,r1,r2]; rfl),rfl⟩
       ·go_wp2
        go_ret; exact ⟨congrArg (fun b => Ending.returned (.bool b)) (show _ = tgtB (bs m) (bs s) by rw [hr.out,r1,r2]; rfl),rfl⟩
    ·have hr:=Hj (show tgtB (bs m) (bs s) = false by rw [hf.out,decide_eq_true h1,decide_eq_false h2]; rfl)
     go_wp2; go_ret; exact ⟨congrArg (fun b => Ending.returned (.bool b)) hr.out.symm,rfl⟩
   ·have hr:=Hj (show tgtB (bs m) (bs s) = false by rw [hf.out,decide_eq_false h1]; rfl)
    go_wp2; go_ret; exact ⟨congrArg (fun b => Ending.returned (.bool b)) hr.out.symm,rfl⟩
end Go.Proofs.YtjffffpfejmoiaaGreatDoor
namespace Go.Proofs.YtjffffpfejmoiaaGreatDoor
open Go.RowKit Syn Fr
def sp (c : UInt8) : Bytes → List Bytes
 | [] => [[]]
 | x :: r => if x = c then [] :: sp c r else match sp c r with | [] => [[x]] | y :: ys => (x :: y) :: ys
theorem sp_pos (c : UInt8) : ∀ s : Bytes,sp c s ≠ []
 | [] => by simp [sp]
 | x :: r => by
  unfold sp
  split
  ·simp
  ·split <;> simp
theorem sp_miss {c : UInt8} : ∀ {s : Bytes},s.dropWhile (· != c) = [] → sp c s = [s]
 | [],_ => rfl
 | x :: r,h => by
  rw [List.dropWhile_cons] at h
  by_cases hx : x = c
  ·rw [if_neg (by simp [hx])] at h; cases h
  ·rw [if_pos (by simp [hx])] at h
   unfold sp
   rw [if_neg hx,sp_miss h]
theorem sp_hit {c : UInt8} : ∀ {s : Bytes},(s.dropWhile (· != c)).isEmpty = false → sp c s = s.takeWhile (· != c) :: sp c ((s.dropWhile (· != c)).drop 1)
 | [],h => by cases h
 | x :: r,h => by
  rw [List.dropWhile_cons] at h ⊢
  rw [List.takeWhile_cons]
  by_cases hx : x = c
  ·rw [if_neg (by simp [hx]),if_neg (by simp [hx])]
   conv => lhs; unfold sp
   rw [if_pos hx]; rfl
  ·rw [if_pos (by simp [hx])] at h
   rw [if_pos (by simp [hx]),if_pos (by simp [hx])]
   conv => lhs; unfold sp
   rw [if_neg hx,sp_hit h]
theorem splitK_sp (c : UInt8) : ∀ (k : Nat) (s : Bytes),s.count c ≤ k → Lib.splitK [c] 0 k s = sp c s
 | 0,s,h => by
  show [s] = _
  rcases index_split c s with ⟨-,h2,-⟩ | ⟨i,h1,h2,-,-,-⟩
  ·rw [sp_miss h2]
  ·exfalso
   have h3:=(Lib.indexByte_some h1).1; have : c ∈ s:=List.mem_of_getElem? h3
   have:=List.count_pos_iff.2 this
   omega
 | k + 1,s,h => by
  unfold Lib.splitK
  rw [Lib.index_one]
  rcases index_split c s with ⟨h1,h2,-⟩ | ⟨i,h1,h2,h3,h4,h5⟩
  ·rw [h1,if_pos (by decide),sp_miss h2]
  ·have hc : (s.drop (i + 1)).count c ≤ k:=by
    have e : s = s.take i ++ (c :: s.drop (i + 1)):=by
     have hi:=(Lib.indexByte_some h1).1; rw [List.getElem?_eq_getElem h2,Option.some.injEq] at hi
     conv => lhs; rw [← List.take_append_drop i s,List.drop_eq_getElem_cons h2,hi]
    rw [e,List.count_append,List.count_cons_self] at h
    omega
   rw [h1,if_neg (by rw [beq_iff_eq]; omega),sp_hit h5,h3,h4]
   show s.take (i + 0) :: Lib.splitK [c] 0 k (s.drop (i + 1)) = _
   rw [splitK_sp c k _ hc]; rfl
theorem sp_most (c : UInt8) : ∀ (s : Bytes),∀ x ∈ sp c s,x.length ≤ s.length
 | [],x,h => by unfold sp at h; rw [List.mem_singleton] at h; rw [h]; simp
 | y :: r,x,h => by
  unfold sp at h
  split at h
  ·rcases List.mem_cons.1 h with rfl | h
   ·simp
   ·have:=sp_most c r x h; rw [List.length_cons]; omega
  ·split at h
   ·rw [List.mem_singleton] at h; rw [h]; simp
   ·next z zs he =>
    rcases List.mem_cons.1 h with rfl | h
    ·have:=sp_most c r z (by rw [he]; simp); rw [List.length_cons,List.length_cons]; omega
    ·have:=sp_most c r x (by rw [he]; simp [h]); rw [List.length_cons]; omega
theorem sp_length (c : UInt8) : ∀ (s : Bytes),(sp c s).length = s.count c + 1
 | [] => rfl
 | y :: r => by
  unfold sp
  have:=sp_length c r
  split
  ·next h => rw [List.length_cons,this,h,List.count_cons_self]
  ·next h =>
   rw [List.count_cons_of_ne h]
   split
   ·next he => rw [he] at this; simp at this
   ·next z zs he => rw [he] at this; simpa using this
theorem infoS9 : (Tryz.prog.info? 9).map (fun i => (i.zero,i.size,i.bytes)) = some (some (.string ByteArray.empty),1,16):=by kernel_rfl
theorem count_size (c : UInt8) (s : ByteArray) : Lib.countB s ⟨#[c]⟩ = (bs s).count c:=Lib.count_one c (bs s)
theorem split_pieces (c : UInt8) (s : ByteArray) : (Lib.splitB ⟨#[c]⟩ 0 (Lib.countB s ⟨#[c]⟩) s).map Value.string = strs (sp c (bs s)):=by
 have h:=Lib.splitB_data ⟨#[c]⟩ 0 (Lib.countB s ⟨#[c]⟩) s; have h2 : Lib.splitK [c] 0 (Lib.countB s ⟨#[c]⟩) (bs s) = sp c (bs s):=splitK_sp c _ _ (by rw [count_size]; exact Nat.le_refl _)
 have h3 : (Lib.splitB ⟨#[c]⟩ 0 (Lib.countB s ⟨#[c]⟩) s).map bs = sp c (bs s):=h.trans h2
 unfold strs
 rw [← h3,List.map_map]
 congr 1
set_option maxRecDepth 100000 in
theorem gensplit_any (s : ByteArray) (c : UInt8) (w : World) (hs : s.size < 4294967281) :
  Calls Tryz.prog 73 #[.string s,.string ⟨#[c]⟩,.int .i64 0,.int .i64 (-1)] w fun e w' => e = .returned (.slice (some ⟨w.heap.size,0,none⟩) ((bs s).count c + 1) ((bs s).count c + 1)) ∧ w' = w.alloc (.cells (strs (sp c (bs s))).toArray 9):=by
 have hle:=Lib.countB_le ⟨#[c]⟩ (show 1 ≤ (⟨#[c]⟩ : ByteArray).size from Nat.le_refl _) s.size s (Nat.le_refl _); have hlen:=Lib.splitB_all ⟨#[c]⟩ (show 1 ≤ (⟨#[c]⟩ : ByteArray).size from Nat.le_refl _) 0 _ s rfl; have h:=Any.strings_genSplit_core (L:={ Tryz.lays146 with }) infoS9 s ⟨#[c]⟩ 0 (-1) (Lib.countB s ⟨#[c]⟩ + 1) w hs (Nat.le_refl _) (Nat.zero_le _)
  (fun x cs hx => by
   have:=Any.strings_Index_one (L:={ Tryz.lays146 with }) x c (w.alloc (.cells cs (Tryz.lays146_ren.t 9)))
   refine this.mono ?_
   rintro e w' ⟨rfl,rfl⟩
   exact ⟨by rw [← Lib.index_one],rfl⟩)
  (by
   refine (Any.strings_Count_one (L:={ Tryz.lays146 with }) s c w).mono ?_
   rintro e w' ⟨rfl,rfl⟩
   exact ⟨by rw [count_size]; rfl,rfl⟩) (by decide) (by decide) (by rw [if_pos (by decide)]; omega)
 rw [Nat.add_sub_cancel,hlen] at h
 have e2 : Lib.cellsOf (Lib.splitB ⟨#[c]⟩ 0 (Lib.countB s ⟨#[c]⟩) s) (Lib.countB s ⟨#[c]⟩ + 1) = ((Lib.splitB ⟨#[c]⟩ 0 (Lib.countB s ⟨#[c]⟩) s).map Value.string).toArray:=by rw [← hlen]; exact Lib.cellsOf_full _
 rw [e2,split_pieces,count_size] at h
 exact h
theorem split_any (s : ByteArray) (c : UInt8) (w : World) (hs : s.size < 4294967281) :
  Calls Tryz.prog 49 #[.string s,.string ⟨#[c]⟩] w fun e w' => e = .returned (.slice (some ⟨w.heap.size,0,none⟩) ((bs s).count c + 1) ((bs s).count c + 1)) ∧ w' = w.alloc (.cells (strs (sp c (bs s))).toArray 9):=by
 have hG:=Hj (fun w => gensplit_any s c w hs); generalize (bs s).count c + 1 = n at *; generalize (strs (sp c (bs s))).toArray = cs at *; go_enter Tryz.func49,Tryz.ntmps49
 go_wp2_with fail
 refine (hG.out _).mono ?_
 rintro e w1 ⟨rfl,rfl⟩
 go_wp2; go_ret; exact ⟨rfl,rfl⟩
end Go.Proofs.YtjffffpfejmoiaaGreatDoor
namespace Go.Proofs.YtjffffpfejmoiaaGreatDoor
open Go.RowKit Syn Fr
end Go.Proofs.YtjffffpfejmoiaaGreatDoor
namespace Go.Proofs.YtjffffpfejmoiaaGreatDoor
open Go.RowKit Syn Fr
set_option maxRecDepth 100000 in
set_option maxHeartbeats 4000000 in
theorem all_any (L : List (List UInt8 × List UInt8)) (name : Bytes) (v : Value) (w : World) (hs : ∀ p ∈ L,p.1.length ≤ 1000000 ∧ p.2.length ≤ 1000000) (hlen : L.length ≤ 1000) (hn : name.length ≤ 1000) (hR : Rd w 2 v L.length (prs L)) :
  Calls Tryz.prog 41 #[v,.string (str name)] w fun e w' => ∃ o,e = .returned o ∧ Own w' w.heap.size 9 1 o (allV L name).length (strs (allV L name)) ∧ Below w.heap.size w w':=by
 obtain ⟨A,cap,rfl,hcap,-,-⟩:=id hR; replace hs:=Hj hs; have hL : ∀ w,Calls Tryz.prog 61 #[.string (str name)] w fun e w' => e = .returned (.string (str (Syn.lower name))) ∧ Below w.heap.size w w':=fun w => flower_any (str name) w (by rw [str_size]; omega)
 replace hL:=Hj hL; go_enter Tryz.func41,Tryz.ntmps41
 go_wp2_with fail
 refine (hL.out _).mono ?_
 rintro e w1 ⟨rfl,hb1⟩
 replace hR:=Hj (hR.below hb1); replace hb1:=Hj hb1; go_wp2; go_loopw [5,12] (fun o i wr => ∃ k : Nat,i = .int .i64 (k : Int) ∧ k ≤ L.length ∧ Hid (Own wr w1.heap.size 9 1 o (allV (L.take k) name).length (strs (allV (L.take k) name))) ∧ Hid (Below w1.heap.size w1 wr)) (fun _ i _ => L.length - (intOf i).toNat)
 case atStart => exact ⟨0,rfl,by omega,own_nil _ _ _ _,Below.refl _ _⟩
 case round =>
  obtain ⟨k,rfl,hk,ho,hB⟩:=hrel
  have hBw:=hB.out.size; by_cases hlt : k < L.length
  ·obtain ⟨A',cap',e',-,-,r'⟩:=hR.out.below hB.out
   cases e'; obtain ⟨b1,o1,rfl,_,x1⟩:=r' (by omega)
   have d1 : wr.cell? ⟨b1,o1 + k * 2,none⟩ = some (.string (str L[k].1)):=x1 _ _ (prs_at0 hlt)
   have d2 : wr.cell? ⟨b1,o1 + k * 2 + 1,none⟩ = some (.string (str L[k].2)):=x1 _ _ (prs_at1 hlt)
   have hsh:=hs.out L[k] (List.getElem_mem hlt); have htk:=Hj (allV_take hlt name); have hal:=allV_length (L.take k) name; rw [List.length_take] at hal
   clear x1 r'; generalize L[k] = p at *; obtain ⟨n,vv⟩:=p
   simp only at d1 d2 hsh htk
   have hL2 : ∀ w,Calls Tryz.prog 61 #[.string (str n)] w fun e w' => e = .returned (.string (str (Syn.lower n))) ∧ Below w.heap.size w w':=fun w => flower_any (str n) w (by rw [str_size]; omega)
   replace hL2:=Hj hL2; have hnew:=Hj (Blk.new wr 26 #[.string (str n),.string (str vv)]); replace hsh:=Hj hsh; go_wp2_with fail
   refine (hL2.out _).mono ?_
   rintro e w2 ⟨rfl,hb2⟩
   have hK2:=hnew.out.below hb2; have hbB : Below w1.heap.size w1 w2:=(hB.out.alloc hBw _).trans (hb2.mono (by rw [alloc_size']; omega))
   have ho2:=Hj (own_below (own_below ho.out ((Below.refl _ _).alloc (Nat.le_refl _) _)) hb2); have hB2:=Hj hbB; have hBw2:=hbB.size; have c1 : w2.cell? ⟨wr.heap.size,1,none⟩ = some (.string (str vv)):=hK2.cell 1
   clear hb2 hK2 hbB d1 d2; by_cases he : Syn.lower n = Syn.lower name
   ·have hq : ((str (Syn.lower n)).toList == (str (Syn.lower name)).toList) = true:=str_eq he
    rw [if_pos he] at htk
    replace he:=Hj he; go_wp2_with (at_builtin; refine push_str _ _ rfl rfl rfl ho2.out rfl rfl (by omega) hBw2 ?_; intro v3 w3 ho3 hb3; replace ho3:=Hj ho3; have hB3:=Hj (hB2.out.trans hb3); clear hb3)
    go_roundw
    case rel =>
     refine ⟨k + 1,by go_num,by omega,Hj ?_,hB3⟩
     rw [htk.out,strs_snoc]; simpa using ho3.out
    case measure => simp [intOf]; omega
   ·have hq : ((str (Syn.lower n)).toList == (str (Syn.lower name)).toList) = false:=str_ne he
    rw [if_neg he,List.append_nil] at htk
    replace he:=Hj he; go_wp2; go_roundw
    case rel => exact ⟨k + 1,by go_num,by omega,by rw [htk.out]; exact ho2,hB2⟩
    case measure => simp [intOf]; omega
  ·obtain rfl : k = L.length:=by omega
   rw [List.take_length] at ho
   go_wp2; go_ret; exact ⟨_,rfl,own_mono ho.out hb1.out.size,Below.next hb1.out hb1.out.size hB.out⟩
end Go.Proofs.YtjffffpfejmoiaaGreatDoor
namespace Go.Proofs.YtjffffpfejmoiaaGreatDoor
open Go.RowKit Syn Fr Hd
namespace Hd
def aln (c : UInt8) : Bool:=(decide (48 ≤ c.toNat) && decide (c.toNat ≤ 57)) || (decide (97 ≤ c.toNat) && decide (c.toNat ≤ 122)) || (decide (65 ≤ c.toNat) && decide (c.toNat ≤ 90))
def dash (c : UInt8) : Bool:=decide (c.toNat = 45)
def hch (c : UInt8) : Bool:=aln c || dash c
def labB (x : List UInt8) : Bool:=((decide (1 ≤ x.length) && decide (x.length ≤ 63)) && (!x.head?.any dash && !x.getLast?.any dash)) && x.all hch
def hostB (s : List UInt8) : Bool:=decide (s.length ≤ 100) && (sp 46 s).all labB
def hsV (s : List UInt8) : List UInt8:=if hostB s = true then Syn.lower s else []
def hsE (s : List UInt8) : Int:=if hostB s = true then 0 else 8
theorem hostB_long {s : List UInt8} (h : 100 < s.length) : hostB s = false:=by unfold hostB; rw [decide_eq_false (by omega)]; rfl
theorem hostB_lab {s : List UInt8} {k : Nat} (h : k < (sp 46 s).length) (h2 : labB (sp 46 s)[k] = false) : hostB s = false:=by
 unfold hostB
 have : (sp 46 s).all labB = false:=by rw [List.all_eq_false]; exact ⟨_,List.getElem_mem h,by rw [h2]; simp⟩
 rw [this,Bool.and_false]
theorem hostB_done {s : List UInt8} (h : s.length ≤ 100) (h2 : (sp 46 s).all labB = true) : hostB s = true:=by unfold hostB; rw [decide_eq_true h,h2]; rfl
theorem labs_take {l : List (List UInt8)} {k : Nat} (h : k < l.length) (h1 : (l.take k).all labB = true) (h2 : labB l[k] = true) : (l.take (k + 1)).all labB = true:=by
 rw [List.take_succ_eq_append_getElem h,List.all_append,h1]; simp [h2]
theorem lab_few {s : ByteArray} (h : ¬ 1 ≤ s.size) : labB (bs s) = false:=by unfold labB; rw [bs_length,decide_eq_false h]; rfl
theorem lab_many {s : ByteArray} (h : ¬ s.size ≤ 63) : labB (bs s) = false:=by unfold labB; rw [bs_length,decide_eq_false h,Bool.and_false]; rfl
theorem lab_head {s : ByteArray} (h : 1 ≤ s.size) (hd : s[0].toNat = 45) : labB (bs s) = false:=by
 unfold labB; rw [head_at s h,Option.any_some,show dash s[0] = true from decide_eq_true hd]; simp
theorem last_at {s : ByteArray} {m : Nat} (h : s.size = m + 1) : (bs s).getLast? = some (s[m]'(by omega)):=by
 rw [List.getLast?_eq_getElem?,bs_length,show s.size - 1 = m by omega]; exact byte_at s m (by omega)
theorem lab_last {s : ByteArray} {m : Nat} (h : s.size = m + 1) (hd : (s[m]'(by omega)).toNat = 45) : labB (bs s) = false:=by
 unfold labB; rw [last_at h,Option.any_some,show dash (s[m]'(by omega)) = true from decide_eq_true hd]; simp
theorem lab_char {s : ByteArray} {j : Nat} (h : j < s.size) (hc : hch s[j] = false) : labB (bs s) = false:=by
 unfold labB; rw [all_fail h hc,Bool.and_false]
theorem lab_done {s : ByteArray} {m : Nat} (h : s.size = m + 1) (h2 : s.size ≤ 63) (h3 : s[0].toNat ≠ 45) (h4 : (s[m]'(by omega)).toNat ≠ 45) (h5 : ((bs s).take s.size).all hch = true) : labB (bs s) = true:=by
 unfold labB
 rw [bs_length,decide_eq_true (show 1 ≤ s.size by omega),decide_eq_true h2,all_done h5,last_at h,head_at s (by omega),Option.any_some,Option.any_some,show dash s[0] = false from decide_eq_false h3,show dash (s[m]'(by omega)) = false from decide_eq_false h4]; rfl
end Hd
set_option maxHeartbeats 1000000 in
theorem alnum_any (c : UInt8) (w : World) : Calls Tryz.prog 72 #[.int .u8 (c.toNat : Int)] w fun e w' => e = .returned (.bool (aln c)) ∧ w' = w:=by
 have key : c.toNat < 48 ∨ (48 ≤ c.toNat ∧ c.toNat ≤ 57) ∨ (57 < c.toNat ∧ c.toNat < 65) ∨ (65 ≤ c.toNat ∧ c.toNat ≤ 90) ∨ (90 < c.toNat ∧ c.toNat < 97) ∨ (97 ≤ c.toNat ∧ c.toNat ≤ 122) ∨ 122 < c.toNat:=by omega
 have no : (c.toNat < 48 ∨ 57 < c.toNat) → (c.toNat < 65 ∨ 90 < c.toNat) → (c.toNat < 97 ∨ 122 < c.toNat) → Hid (aln c = false):=fun h1 h2 h3 => Hj (by unfold aln; simp; omega)
 have yes : (48 ≤ c.toNat ∧ c.toNat ≤ 57) ∨ (65 ≤ c.toNat ∧ c.toNat ≤ 90) ∨ (97 ≤ c.toNat ∧ c.toNat ≤ 122) → Hid (aln c = true):=fun h1 => Hj (by unfold aln; simp; omega)
 rcases key with h | ⟨h,h'⟩ | ⟨h,h'⟩ | ⟨h,h'⟩ | ⟨h,h'⟩ | ⟨h,h'⟩ | h
 all_goals
  first | have e:=no (by omega) (by omega) (by omega) | have e:=yes (by omega)
  clear no yes; go_enter Tryz.func72,Tryz.ntmps72
  go_wp2; go_ret; exact ⟨congrArg (fun b => Ending.returned (.bool b)) (by first | (rw [e.out]; done) | (rw [e.out]; simp <;> omega)),rfl⟩
set_option maxRecDepth 100000 in
set_option maxHeartbeats 8000000 in
theorem host_any (s : ByteArray) (w : World) (hs : s.size ≤ 1000000) :
  Calls Tryz.prog 47 #[.string s] w fun e w' => e = .returned (.tuple #[.string (str (hsV (bs s))),errV (hsE (bs s))]) ∧ Below w.heap.size w w':=by
 have hn:=bs_length s; have hV : hostB (bs s) = false → Ending.returned (.tuple #[.string ByteArray.empty,.iface 57 (.int .i64 8)]) = Ending.returned (.tuple #[.string (str (hsV (bs s))),errV (hsE (bs s))]):=fun h => by
  unfold hsV hsE; rw [h]; rfl
 by_cases h100 : 100 < s.size
 ·have hf:=Hj (hV (hostB_long (by omega)))
  clear hV; go_enter Tryz.func47,Tryz.ntmps47
  go_wp2; go_ret2
  exact ⟨hf.out,Below.refl _ _⟩
 ·have hSp:=Hj (fun w => split_any s 46 w (by omega))
  have hcnt:=sp_length 46 (bs s); have hlab:=Hj (fun (k : Nat) (h : k < (sp 46 (bs s)).length) (h2 : labB (sp 46 (bs s))[k] = false) => hV (hostB_lab h h2)); have hdone:=Hj (fun h2 => hostB_done (s:=bs s) (by omega) h2); have hmost:=Hj (sp_most 46 (bs s)); have hcl : (bs s).count 46 ≤ (bs s).length:=List.count_le_length
  generalize sp 46 (bs s) = L at *; obtain ⟨n,hne⟩ : ∃ n,(bs s).count 46 + 1 = n:=⟨_,rfl⟩
  rw [hne] at hSp hcnt
  have hn100 : n ≤ 101:=by omega
  clear hV; replace hne:=Hj hne; replace hcnt:=Hj hcnt; go_enter Tryz.func47,Tryz.ntmps47
  go_wp2_with fail
  refine (hSp.out _).mono ?_
  rintro e w1 ⟨rfl,hw1⟩
  have hA : Hid (Blk w1 w.heap.size 9 (strs L).toArray):=Hj (by rw [hw1]; exact Blk.new w _ _)
  have hB1 : Hid (Below w.heap.size w w1):=Hj (by rw [hw1]; exact (Below.refl _ _).alloc (Nat.le_refl _) _)
  clear hw1; go_wp2; go_loop [18] (fun i => ∃ k : Nat,i = .int .i64 (k : Int) ∧ k ≤ n ∧ Hid ((L.take k).all labB = true)) (fun i => n - (intOf i).toNat)
  case atStart => exact ⟨0,rfl,by omega,Hj rfl⟩
  case round =>
   obtain ⟨k,rfl,hk,ha⟩:=hrel
   by_cases hlt : k < n
   ·have hkL : k < L.length:=by rw [hcnt.out]; exact hlt
    have d1 : w1.cell? ⟨w.heap.size,k,none⟩ = some (.string (str L[k])):=by
     rw [hA.out.cell k,List.getElem?_toArray]; exact strs_at hkL
    have hm:=hmost.out L[k] (List.getElem_mem hkL); have hbad:=Hj (hlab.out k hkL); have hok:=Hj (fun h2 => labs_take hkL ha.out h2); have ebs : bs (str L[k]) = L[k]:=bs_str _
    have hxz : (str L[k]).size ≤ 1000000:=by rw [str_size]; omega
    rw [← ebs] at hbad hok
    replace ebs:=Hj ebs; generalize str L[k] = sx at *; clear hm; by_cases h1 : 1 ≤ sx.size
    ·by_cases h63 : sx.size ≤ 63
     ·obtain ⟨m,hm⟩ : ∃ m,sx.size = m + 1:=⟨sx.size - 1,by omega⟩
      have h0 : 0 < sx.size:=h1
      have hmlt : m < sx.size:=by omega
      by_cases c0 : sx[0].toNat = 45
      ·have q0 : ((sx[0].toNat : Int) == 45) = true:=beq_cast_true c0
       have hf:=Hj (hbad.out (lab_head h1 c0)); replace c0:=Hj c0; replace hm:=Hj hm; go_wp2; go_ret2
       exact ⟨hf.out,hB1.out⟩
      ·have q0 : ((sx[0].toNat : Int) == 45) = false:=beq_cast_false c0
       by_cases c1 : sx[m].toNat = 45
       ·have q1 : ((sx[m].toNat : Int) == 45) = true:=beq_cast_true c1
        have hf:=Hj (hbad.out (lab_last hm c1)); replace c0:=Hj c0; replace c1:=Hj c1; go_wp2; go_ret2
        exact ⟨hf.out,hB1.out⟩
       ·have q1 : ((sx[m].toNat : Int) == 45) = false:=beq_cast_false c1
        have hgood:=Hj (fun h5 => hok.out (lab_done hm h63 c0 c1 h5)); replace c0:=Hj c0; replace c1:=Hj c1; go_wp2; go_loop [44] (fun i => ∃ j : Nat,i = .int .i64 (j : Int) ∧ j ≤ m + 1 ∧ Hid (((bs sx).take j).all hch = true)) (fun i => m + 1 - (intOf i).toNat)
        case atStart => exact ⟨0,rfl,by omega,Hj rfl⟩
        case round =>
         obtain ⟨j,rfl,hj,hja⟩:=hrel
         by_cases hjl : j < m + 1
         ·have hjs : j < sx.size:=by omega
          have hAl:=Hj (fun w => alnum_any sx[j] w); cases ha2 : aln sx[j] with
          | true =>
           rw [ha2] at hAl
           have hst:=Hj (all_step (p:=hch) hjs hja.out (by unfold hch; rw [ha2]; rfl))
           replace ha2:=Hj ha2; go_wp2_with fail
           refine (hAl.out _).mono ?_
           rintro e w2 ⟨rfl,rfl⟩
           go_wp2; go_round
           case rel => exact ⟨j + 1,by go_num,by omega,hst⟩
           case measure => simp [intOf]; omega
          | false =>
           rw [ha2] at hAl
           by_cases cd : sx[j].toNat = 45
           ·have hst:=Hj (all_step (p:=hch) hjs hja.out (by unfold hch dash; rw [decide_eq_true cd,Bool.or_true]))
            have q2 : ((sx[j].toNat : Int) != 45) = false:=by rw [cd]; rfl
            replace ha2:=Hj ha2; replace cd:=Hj cd; go_wp2_with fail
            refine (hAl.out _).mono ?_
            rintro e w2 ⟨rfl,rfl⟩
            go_wp2; go_round
            case rel => exact ⟨j + 1,by go_num,by omega,hst⟩
            case measure => simp [intOf]; omega
           ·have hf:=Hj (hbad.out (lab_char hjs (by unfold hch dash; rw [ha2,decide_eq_false cd]; rfl)))
            have q2 : ((sx[j].toNat : Int) != 45) = true:=by rw [bne,show ((sx[j].toNat : Int) == 45) = false from beq_cast_false cd]; rfl
            replace ha2:=Hj ha2; replace cd:=Hj cd; go_wp2_with fail
            refine (hAl.out _).mono ?_
            rintro e w2 ⟨rfl,rfl⟩
            go_wp2; go_ret2
            exact ⟨hf.out,hB1.out⟩
         ·obtain rfl : j = m + 1:=by omega
          have hst:=Hj (hgood.out (by rw [hm]; exact hja.out))
          go_wp2; go_round
          case rel => exact ⟨k + 1,by go_num,by omega,hst⟩
          case measure => simp [intOf]; omega
     ·have hf:=Hj (hbad.out (lab_many h63))
      go_wp2; go_ret2
      exact ⟨hf.out,hB1.out⟩
    ·have hf:=Hj (hbad.out (lab_few h1))
     go_wp2; go_ret2
     exact ⟨hf.out,hB1.out⟩
   ·obtain rfl : k = n:=by omega
    have hres:=hdone.out (by have:=ha.out; rw [List.take_of_length_le (by rw [hcnt.out]; exact Nat.le_refl _)] at this; exact this)
    have hv1:=Hj (show str (hsV (bs s)) = str (Syn.lower (bs s)) by unfold hsV; rw [if_pos hres])
    have hv2:=Hj (show errV (hsE (bs s)) = .nilIface by unfold hsE; rw [if_pos hres]; rfl)
    clear hres; obtain ⟨G,hG⟩ : ∃ G,w1.heap.size = G:=⟨_,rfl⟩
    have hGw : w.heap.size ≤ G:=by rw [← hG]; exact hB1.out.size
    obtain ⟨r,hr⟩ : ∃ r,str (Syn.lower (bs s)) = r:=⟨_,rfl⟩
    have hr:=Hj hr; have hc:=run_bytes_of_string (P:=Tryz.prog) w1 9 23 5 s Tryz.underlying9 Tryz.underlying23 Tryz.underlying5; rw [hG] at hc
    go_wp2_with fail
    clear hc; have hcap : s.size ≤ grownCap w1 s.size 0 5:=grownCap_ge ..
    generalize grownCap w1 s.size 0 5 = cap at *; have hz : (bytesRow s cap).size = cap:=by
     have : s.data.size = s.size:=rfl
     simp [bytesRow]; omega
    have hh:=bytesRow_holds s cap; obtain ⟨cs,hcs⟩ : ∃ cs,cs = bytesRow s cap:=⟨_,rfl⟩
    rw [← hcs] at hz hh ⊢
    rw [hz]
    obtain ⟨w2,hw2⟩ : ∃ w2,w2 = (w1.alloc (Obj.cells cs 5 (cap,cap + 1))).drew:=⟨_,rfl⟩
    have hB2 : Below w.heap.size w w2:=hw2 ▸ (hB1.out.alloc hB1.out.size _).drew
    have hb2 : BlkM w2 G 5 cs cap:=by
     refine ⟨?_,by omega⟩
     rw [hw2,← hG]; show (w1.heap.push _)[w1.heap.size]? = _; simp
    rw [← hw2]
    clear hw2 hG hcs; go_loopw [9,10,65] (fun _ _ i wr => ∃ (k : Nat) (cr : Array Value),i = .int .i64 k ∧ k ≤ s.size ∧ cr.size = cap ∧ BlkM wr G 5 cr cap ∧ Hid (Below w.heap.size w wr) ∧ Hid (Holds cr (Syn.lower ((bs s).take k) ++ (bs s).drop k))) (fun _ _ i _ => s.size - (intOf i).toNat)
    case atStart => exact ⟨0,cs,rfl,by omega,hz,hb2,Hj hB2,hh⟩
    case round =>
     clear ha; obtain ⟨k,cr,rfl,hk,hzr,hbr,hBr,hhr⟩:=hrel
     by_cases hlt : k < s.size
     ·have hh':=hhr.out
      rw [drop_at s k hlt] at hh'
      have hln : (Syn.lower ((bs s).take k)).length = k:=by rw [lower_length,List.length_take,bs_length]; omega
      have hc : wr.cell? ⟨G,k,none⟩ = some (.int .u8 (s[k].toNat : Int)):=by
       rw [hbr.cell]
       refine hh' k s[k] ?_
       rw [List.getElem?_append_right (by omega),hln]; simp
      have hf:=hbr.frozen k (by omega); have hst:=hh'.set_ (d:=low s[k]) (by omega); rw [hln] at hst
      by_cases hu : 65 ≤ s[k].toNat ∧ s[k].toNat ≤ 90
      ·have hu1:=hu.1
       have hu2:=hu.2; have hb:=hbr.set_ k (.int .u8 ((low s[k]).toNat : Int)); rw [low_up hu1 hu2] at hst hb
       have hst:=Hj hst; clear hh'; go_wp2; go_roundw
       case rel =>
        refine ⟨k + 1,_,by go_num,by omega,?_,hb,Hj (hBr.out.setCell hGw _),?_⟩
        ·simp [hzr]
        ·rw [low_take s k hlt,List.append_assoc]; exact hst.out
       case measure => simp [intOf]; omega
      ·have hlo:=low_no (show s[k].toNat < 65 ∨ 90 < s[k].toNat by omega)
       have hn' : Hid (Holds cr (Syn.lower ((bs s).take (k + 1)) ++ (bs s).drop (k + 1))):=by
        rw [low_take s k hlt,List.append_assoc,hlo]; exact hh'
       clear hst hh'; by_cases hu1 : 65 ≤ s[k].toNat
       ·have hu2 : 90 < s[k].toNat:=by omega
        go_wp2; go_roundw
        case rel => exact ⟨k + 1,cr,by go_num,by omega,hzr,hbr,hBr,hn'⟩
        case measure => simp [intOf]; omega
       ·have hu2 : s[k].toNat < 65:=by omega
        go_wp2; go_roundw
        case rel => exact ⟨k + 1,cr,by go_num,by omega,hzr,hbr,hBr,hn'⟩
        case measure => simp [intOf]; omega
     ·obtain rfl : k = s.size:=by omega
      have hh':=hhr.out; rw [take_all,drop_all,List.append_nil] at hh'
      have hcv:=run_convert_bytes_back (P:=Tryz.prog) wr 23 9 5 ⟨G,0,none⟩ cap (Syn.lower (bs s)) Tryz.underlying23 Tryz.underlying5 Tryz.underlying9 (by
       intro j hj; have e : (⟨G,0,none⟩ : Addr).add j = ⟨G,0 + j,none⟩:=by unfold Addr.add; split <;> simp_all
       rw [e,Nat.zero_add,hbr.cell]
       exact hh' j _ (List.getElem?_eq_getElem hj))
      rw [lower_length,bs_length] at hcv
      change _ = Result.ok (Value.string (str (Syn.lower (bs s)))) wr at hcv
      clear hh'; rw [hr.out] at hcv
      go_wp2; go_ret2
      exact ⟨by rw [hv1.out,hv2.out,hr.out]; rfl,hBr.out⟩
end Go.Proofs.YtjffffpfejmoiaaGreatDoor
namespace Go.Proofs.YtjffffpfejmoiaaGreatDoor
open Go.RowKit Syn Fr Hd
end Go.Proofs.YtjffffpfejmoiaaGreatDoor
namespace Go.Proofs.YtjffffpfejmoiaaGreatDoor
open Go.RowKit Syn Fr Hd Ck
namespace Hd
def hostN : List UInt8:=[104,111,115,116]
def stp (nm v : List UInt8) (a : List (List UInt8 × List UInt8) × Bool) (p : List UInt8 × List UInt8) : List (List UInt8 × List UInt8) × Bool :=
 if Syn.lower p.1 = nm then (if a.2 = true then a else (a.1 ++ [(nm,v)],true)) else (a.1 ++ [p],a.2)
def setF (nm v : List UInt8) (l : List (List UInt8 × List UInt8)) : List (List UInt8 × List UInt8) × Bool:=l.foldl (stp nm v) ([],false)
def setV (nm v : List UInt8) (l : List (List UInt8 × List UInt8)) : List (List UInt8 × List UInt8):=if (setF nm v l).2 = true then (setF nm v l).1 else (setF nm v l).1 ++ [(nm,v)]
theorem setF_take {nm v : List UInt8} {l : List (List UInt8 × List UInt8)} {k : Nat} (h : k < l.length) : setF nm v (l.take (k + 1)) = stp nm v (setF nm v (l.take k)) l[k]:=by
 unfold setF; rw [List.take_succ_eq_append_getElem h,List.foldl_append]; rfl
theorem setF_len (nm v : List UInt8) : ∀ (l : List (List UInt8 × List UInt8)) (a : List (List UInt8 × List UInt8) × Bool),(l.foldl (stp nm v) a).1.length ≤ a.1.length + l.length
 | [],a => Nat.le_refl _
 | p :: r,a => by
  rw [List.foldl_cons]
  have:=setF_len nm v r (stp nm v a p)
  have h2 : (stp nm v a p).1.length ≤ a.1.length + 1:=by
   unfold stp
   split
   ·split <;> simp
   ·simp
  rw [List.length_cons]; omega
def rep (nm h : List UInt8) (p : List UInt8 × List UInt8) : List UInt8 × List UInt8:=if Syn.lower p.1 = nm then (nm,h) else p
theorem setF_none (nm v : List UInt8) : ∀ (l : List (List UInt8 × List UInt8)) (o : List (List UInt8 × List UInt8)) (d : Bool),(∀ p ∈ l,Syn.lower p.1 ≠ nm) → l.foldl (stp nm v) (o,d) = (o ++ l,d)
 | [],o,d,_ => by simp
 | p :: r,o,d,h => by
  rw [List.foldl_cons,show stp nm v (o,d) p = (o ++ [p],d) from if_neg (h p (by simp)),setF_none nm v r _ _ (fun q hq => h q (by simp [hq]))]
  simp
theorem rep_none (nm v : List UInt8) {l : List (List UInt8 × List UInt8)} (h : ∀ p ∈ l,Syn.lower p.1 ≠ nm) : l.map (rep nm v) = l:=by
 conv => rhs; rw [← List.map_id l]
 exact List.map_congr_left fun p hp => if_neg (h p hp)
theorem allV_cons (p : List UInt8 × List UInt8) (r : List (List UInt8 × List UInt8)) (nm : List UInt8) : allV (p :: r) nm = if Syn.lower p.1 = Syn.lower nm then p.2 :: allV r nm else allV r nm:=by
 unfold allV
 rw [List.filter_cons]
 by_cases h : Syn.lower p.1 = Syn.lower nm
 ·rw [if_pos h,if_pos (by simpa using h)]; rfl
 ·rw [if_neg h,if_neg (by simpa using h)]
theorem allV_nil {l : List (List UInt8 × List UInt8)} {nm : List UInt8} (h : allV l nm = []) : ∀ p ∈ l,Syn.lower p.1 ≠ Syn.lower nm:=by
 intro p hp he; unfold allV at h
 rw [List.map_eq_nil_iff,List.filter_eq_nil_iff] at h
 exact h p hp (by simpa using he)
theorem setF_one (nm v : List UInt8) (hl : Syn.lower nm = nm) : ∀ (l : List (List UInt8 × List UInt8)) (o : List (List UInt8 × List UInt8)),(allV l nm).length = 1 → l.foldl (stp nm v) (o,false) = (o ++ l.map (rep nm v),true)
 | [],o,h => by simp [allV] at h
 | p :: r,o,h => by
  rw [allV_cons,hl] at h
  rw [List.foldl_cons]
  by_cases hp : Syn.lower p.1 = nm
  ·rw [if_pos hp] at h
   have hn : allV r nm = []:=List.eq_nil_of_length_eq_zero (by simpa using h)
   have hn2:=allV_nil hn; rw [hl] at hn2
   rw [show stp nm v (o,false) p = (o ++ [(nm,v)],true) from by unfold stp; rw [if_pos hp]; rfl,setF_none nm v r _ _ hn2,List.map_cons,rep_none nm v hn2,show rep nm v p = (nm,v) from if_pos hp]
   simp
  ·rw [if_neg hp] at h
   rw [show stp nm v (o,false) p = (o ++ [p],false) from if_neg hp,setF_one nm v hl r _ h,List.map_cons,show rep nm v p = p from if_neg hp]
   simp
theorem setV_one {nm v : List UInt8} (hl : Syn.lower nm = nm) {l : List (List UInt8 × List UInt8)} (h : (allV l nm).length = 1) : setV nm v l = l.map (rep nm v):=by
 unfold setV setF
 rw [setF_one nm v hl l [] h]; simp
theorem low_host : Syn.lower hostN = hostN:=by decide
def hsX (l : List (List UInt8 × List UInt8)) : Option (List UInt8):=match allV l hostN with | [x] => if hostB x = true then some (Syn.lower x) else none | _ => none
end Hd
set_option maxRecDepth 100000 in
set_option maxHeartbeats 4000000 in
theorem fset_any (L : List (List UInt8 × List UInt8)) (x v : List UInt8) (sv : Value) (w : World) (hs : ∀ p ∈ L,p.1.length ≤ 1000000 ∧ p.2.length ≤ 1000000) (hlen : L.length ≤ 1000) (hn : x.length ≤ 1000) (hR : Rd w 2 sv L.length (prs L)) :
  Calls Tryz.prog 48 #[sv,.string (str x),.string (str v)] w fun e w' => ∃ o,e = .returned o ∧ Own w' w.heap.size 26 2 o (setV (Syn.lower x) v L).length (prs (setV (Syn.lower x) v L)) ∧ Below w.heap.size w w':=by
 obtain ⟨A,cap,rfl,hcap,-,-⟩:=id hR; replace hs:=Hj hs; have hL : ∀ w,Calls Tryz.prog 61 #[.string (str x)] w fun e w' => e = .returned (.string (str (Syn.lower x))) ∧ Below w.heap.size w w':=fun w => flower_any (str x) w (by rw [str_size]; omega)
 replace hL:=Hj hL; generalize Syn.lower x = nm at *; go_enter Tryz.func48,Tryz.ntmps48
 go_wp2_with fail
 refine (hL.out _).mono ?_
 rintro e w1 ⟨rfl,hb1⟩
 replace hR:=Hj (hR.below hb1); replace hb1:=Hj hb1; go_wp2; go_loopw [7,8,15] (fun o d i wr => ∃ k : Nat,i = .int .i64 (k : Int) ∧ k ≤ L.length ∧ d = .bool (setF nm v (L.take k)).2 ∧ Hid (Own wr w1.heap.size 26 2 o (setF nm v (L.take k)).1.length (prs (setF nm v (L.take k)).1)) ∧ Hid (Below w1.heap.size w1 wr)) (fun _ _ i _ => L.length - (intOf i).toNat)
 case atStart => exact ⟨0,rfl,by omega,rfl,Hj (own_nil _ _ _ _),Hj (Below.refl _ _)⟩
 case round =>
  obtain ⟨k,rfl,hk,rfl,ho,hB⟩:=hrel
  have hBw:=hB.out.size; have hDl:=setF_len nm v (L.take k) ([],false); rw [List.length_take] at hDl
  change (setF nm v (L.take k)).1.length ≤ 0 + _ at hDl
  by_cases hlt : k < L.length
  ·obtain ⟨A',cap',e',-,-,r'⟩:=hR.out.below hB.out
   cases e'; obtain ⟨b1,o1,rfl,_,x1⟩:=r' (by omega)
   have d1 : wr.cell? ⟨b1,o1 + k * 2,none⟩ = some (.string (str L[k].1)):=x1 _ _ (prs_at0 hlt)
   have d2 : wr.cell? ⟨b1,o1 + k * 2 + 1,none⟩ = some (.string (str L[k].2)):=x1 _ _ (prs_at1 hlt)
   have hsh:=hs.out L[k] (List.getElem_mem hlt); have htk:=setF_take (nm:=nm) (v:=v) hlt; clear x1 r'; generalize L[k] = p at *; obtain ⟨n,vv⟩:=p
   generalize setF nm v (L.take k) = st at *; obtain ⟨D,dn⟩:=st
   simp only at d1 d2 hsh htk hDl ho
   have hL2 : ∀ w,Calls Tryz.prog 61 #[.string (str n)] w fun e w' => e = .returned (.string (str (Syn.lower n))) ∧ Below w.heap.size w w':=fun w => flower_any (str n) w (by rw [str_size]; omega)
   replace hL2:=Hj hL2; have hnew:=Hj (Blk.new wr 26 #[.string (str n),.string (str vv)]); replace hsh:=Hj hsh; have hDl2 : D.length ≤ 1000:=by omega
   clear hDl; go_wp2_with fail
   refine (hL2.out _).mono ?_
   rintro e w2 ⟨rfl,hb2⟩
   have hK2:=hnew.out.below hb2; have hbB : Below w1.heap.size w1 w2:=(hB.out.alloc hBw _).trans (hb2.mono (by rw [alloc_size']; omega))
   have ho2:=Hj (own_below (own_below ho.out ((Below.refl _ _).alloc (Nat.le_refl _) _)) hb2); have hB2:=Hj hbB; have hBw2:=hbB.size; have c0 : w2.cell? ⟨wr.heap.size,0,none⟩ = some (.string (str n)):=hK2.cell 0
   have c1 : w2.cell? ⟨wr.heap.size,1,none⟩ = some (.string (str vv)):=hK2.cell 1
   clear hb2 hK2 hbB d1 d2; by_cases he : Syn.lower n = nm
   ·have hq : ((str (Syn.lower n)).toList == (str nm).toList) = true:=str_eq he
    rw [show stp nm v (D,dn) (n,vv) = if dn = true then (D,dn) else (D ++ [(nm,v)],true) from if_pos he] at htk
    replace he:=Hj he; cases dn with
    | true =>
     rw [if_pos rfl] at htk
     replace htk:=Hj htk; go_wp2; go_roundw
     case rel => exact ⟨k + 1,by go_num,by omega,by rw [htk.out],Hj (by rw [htk.out]; exact ho2.out),hB2⟩
     case measure => simp [intOf]; omega
    | false =>
     rw [if_neg (by decide)] at htk
     have hpr:=Hj (prs_snoc D (nm,v)); replace htk:=Hj htk; go_wp2_with (at_builtin; refine push_pair 28 26 Tryz.underlying28 infoCF _ _ rfl rfl rfl ho2.out rfl rfl rfl (by omega) hBw2 ?_; intro v3 w3 ho3 hb3; replace ho3:=Hj ho3; have hB3:=Hj (hB2.out.trans hb3); clear hb3)
     go_roundw
     case rel => exact ⟨k + 1,by go_num,by omega,by rw [htk.out],Hj (by rw [htk.out]; simp only [hpr.out,List.length_append]; exact ho3.out),hB3⟩
     case measure => simp [intOf]; omega
   ·have hq : ((str (Syn.lower n)).toList == (str nm).toList) = false:=str_ne he
    rw [show stp nm v (D,dn) (n,vv) = (D ++ [(n,vv)],dn) from if_neg he] at htk
    have hpr:=Hj (prs_snoc D (n,vv)); replace he:=Hj he; replace htk:=Hj htk; go_wp2_with (at_builtin; refine push_pair 28 26 Tryz.underlying28 infoCF _ _ rfl rfl rfl ho2.out rfl rfl rfl (by omega) hBw2 ?_; intro v3 w3 ho3 hb3; replace ho3:=Hj ho3; have hB3:=Hj (hB2.out.trans hb3); clear hb3)
    go_roundw
    case rel => exact ⟨k + 1,by go_num,by omega,by rw [htk.out],Hj (by rw [htk.out]; simp only [hpr.out,List.length_append]; exact ho3.out),hB3⟩
    case measure => simp [intOf]; omega
  ·obtain rfl : k = L.length:=by omega
   rw [List.take_length] at *
   have hSV : setV nm v L = if (setF nm v L).2 = true then (setF nm v L).1 else (setF nm v L).1 ++ [(nm,v)]:=rfl
   generalize setF nm v L = st at *; obtain ⟨D,dn⟩:=st
   simp only at hSV hDl ho
   have hDl2 : D.length ≤ 1000:=by omega
   clear hDl; cases dn with
   | true =>
    rw [if_pos rfl] at hSV
    replace hSV:=Hj hSV; go_wp2; go_ret; exact ⟨_,rfl,by rw [hSV.out]; exact own_mono ho.out hb1.out.size,Below.next hb1.out hb1.out.size hB.out⟩
   | false =>
    rw [if_neg (by decide)] at hSV
    have hpr:=Hj (prs_snoc D (nm,v)); replace hSV:=Hj hSV; go_wp2_with (at_builtin; refine push_pair 28 26 Tryz.underlying28 infoCF _ _ rfl rfl rfl ho.out rfl rfl rfl (by omega) hBw ?_; intro v3 w3 ho3 hb3; replace ho3:=Hj ho3; have hB3:=Hj (hB.out.trans hb3); clear hb3)
    go_ret; exact ⟨_,rfl,by rw [hSV.out,hpr.out,List.length_append]; exact own_mono ho3.out hb1.out.size,Below.next hb1.out hb1.out.size hB3.out⟩
end Go.Proofs.YtjffffpfejmoiaaGreatDoor
namespace Go.Proofs.YtjffffpfejmoiaaGreatDoor
open Go.RowKit Syn Fr Hd Ck
namespace Hd
def HosR (w : World) (l : List (List UInt8 × List UInt8)) (e : Ending) (w' : World) : Prop :=
 ((hsX l = none ∧ e = .returned (.tuple #[.slice none 0 0,.iface 57 (.int .i64 29)])) ∨
  ∃ h o,hsX l = some h ∧ e = .returned (.tuple #[o,.nilIface]) ∧ Own w' w.heap.size 26 2 o (l.map (rep hostN h)).length (prs (l.map (rep hostN h)))) ∧ Below w.heap.size w w'
theorem HosR.no {w w' : World} {l : List (List UInt8 × List UInt8)} (h : hsX l = none) (hb : Below w.heap.size w w') : HosR w l (.returned (.tuple #[.slice none 0 0,.iface 57 (.int .i64 29)])) w':=⟨.inl ⟨h,rfl⟩,hb⟩
theorem HosR.yes {w w' : World} {l : List (List UInt8 × List UInt8)} {h : List UInt8} {o : Value} (hx : hsX l = some h) (ho : Own w' w.heap.size 26 2 o (l.map (rep hostN h)).length (prs (l.map (rep hostN h)))) (hb : Below w.heap.size w w') : HosR w l (.returned (.tuple #[o,.nilIface])) w' :=
 ⟨.inr ⟨h,o,hx,rfl,ho⟩,hb⟩
theorem hsX_len {l : List (List UInt8 × List UInt8)} (h : ¬ (allV l hostN).length = 1) : hsX l = none:=by
 unfold hsX
 split
 ·next x he => rw [he] at h; simp at h
 ·rfl
theorem hsX_bad {l : List (List UInt8 × List UInt8)} {x : List UInt8} (h : allV l hostN = [x]) (h2 : hostB x = false) : hsX l = none:=by
 unfold hsX; rw [h]; simp [h2]
theorem hsX_good {l : List (List UInt8 × List UInt8)} {x : List UInt8} (h : allV l hostN = [x]) (h2 : hostB x = true) : hsX l = some (Syn.lower x):=by
 unfold hsX; rw [h]; simp [h2]
def repR (p : List UInt8 × List UInt8) : List UInt8 × List UInt8:=if Syn.lower p.1 = hostN then (p.1,Syn.lower p.2) else p
theorem allV_at {l : List (List UInt8 × List UInt8)} {k : Nat} (h : k < l.length) (h2 : Syn.lower l[k].1 = hostN) : l[k].2 ∈ allV l hostN:=by
 unfold allV
 rw [List.mem_map]
 exact ⟨l[k],List.mem_filter.2 ⟨List.getElem_mem h,by rw [low_host]; simpa using h2⟩,rfl⟩
end Hd
set_option maxRecDepth 100000 in
set_option maxHeartbeats 4000000 in
theorem hosted_any (l : List (List UInt8 × List UInt8)) (v : Value) (w : World) (hs : ∀ p ∈ l,p.1.length ≤ 1000000 ∧ p.2.length ≤ 1000000) (hm : l.length ≤ 1000) (hR : Rd w 2 v l.length (prs l)) :
  Calls Tryz.prog 27 #[v] w (HosR w l):=by
 obtain ⟨A,cap,rfl,hcap,-,-⟩:=id hR; have hAl:=Hj (fun w h => all_any l hostN (.slice A l.length cap) w hs hm (by decide) h); have hSt:=Hj (fun y w h => fset_any l hostN y (.slice A l.length cap) w hs hm (by decide) h); have hln : (allV l hostN).length ≤ 1000:=Nat.le_trans (allV_length l hostN) hm
 have hmem : ∀ x ∈ allV l hostN,x.length ≤ 1000000:=fun x hx => by obtain ⟨p,hp,rfl⟩:=allV_mem hx; exact (hs p hp).2
 have hstr : str hostN = ⟨#[104,111,115,116]⟩:=rfl
 rw [hstr] at hAl hSt
 replace hR:=Hj hR; replace hs:=Hj hs; clear hstr; by_cases h1 : (allV l hostN).length = 1
 ·obtain ⟨x,hx⟩ : ∃ x,allV l hostN = [x]:=by
   match hh : allV l hostN,h1 with
   | [x],_ => exact ⟨x,rfl⟩
  have hxl:=hmem x (by rw [hx]; simp)
  have hH:=Hj (fun w => host_any (str x) w (by rw [str_size]; exact hxl))
  rw [hx] at hAl
  have hsv:=setV_one (nm:=hostN) (v:=Syn.lower x) low_host h1; have hSt2:=Hj (hSt.out (Syn.lower x)); rw [low_host,hsv] at hSt2
  clear hSt hsv hmem; cases hb : hostB x with
  | true =>
   have hgood:=Hj (hsX_good hx hb); have e1 : hsV (bs (str x)) = Syn.lower x:=by rw [bs_str]; unfold hsV; rw [if_pos hb]
   have e2 : hsE (bs (str x)) = 0:=by rw [bs_str]; unfold hsE; rw [if_pos hb]
   rw [e1,e2,errV_zero] at hH
   replace hb:=Hj hb; replace hx:=Hj hx; replace h1:=Hj h1; clear e1 e2; go_enter Tryz.func27,Tryz.ntmps27
   go_wp2_with fail
   refine (hAl.out _ hR.out).mono ?_
   rintro e w1 ⟨o,rfl,ho,hb1⟩
   obtain ⟨A1,c1,rfl,-,-,r1⟩:=Rd.own ho
   obtain ⟨b1,o1,rfl,-,x1⟩:=r1 (by simp)
   have d1 : w1.cell? ⟨b1,o1 + 0,none⟩ = some (.string (str x)):=x1 0 _ rfl
   rw [Nat.add_zero] at d1
   have hR1:=Hj (hR.out.below hb1); replace hb1:=Hj hb1; clear x1 r1 ho; go_wp2_with fail
   refine (hH.out _).mono ?_
   rintro e w2 ⟨rfl,hb2⟩
   have hR2:=Hj (hR1.out.below hb2); have hB2:=Hj (Below.next hb1.out hb1.out.size hb2); clear hb2; go_wp2_with fail
   refine (hSt2.out _ hR2.out).mono ?_
   rintro e w3 ⟨o3,rfl,ho3,hb3⟩
   have hB3:=Hj (Below.next hB2.out hB2.out.size hb3); replace ho3:=Hj (own_mono ho3 hB2.out.size); clear hb3; go_wp2; go_ret2
   exact HosR.yes hgood.out ho3.out hB3.out
  | false =>
   have hbad:=Hj (hsX_bad hx hb); have e2 : hsE (bs (str x)) = 8:=by rw [bs_str]; unfold hsE; rw [if_neg (by rw [hb]; decide)]
   rw [e2,herr_ne (by decide)] at hH
   replace hb:=Hj hb; replace hx:=Hj hx; replace h1:=Hj h1; clear e2 hSt2; generalize str (hsV (bs (str x))) = hv at *; go_enter Tryz.func27,Tryz.ntmps27
   go_wp2_with fail
   refine (hAl.out _ hR.out).mono ?_
   rintro e w1 ⟨o,rfl,ho,hb1⟩
   obtain ⟨A1,c1,rfl,-,-,r1⟩:=Rd.own ho
   obtain ⟨b1,o1,rfl,-,x1⟩:=r1 (by simp)
   have d1 : w1.cell? ⟨b1,o1 + 0,none⟩ = some (.string (str x)):=x1 0 _ rfl
   rw [Nat.add_zero] at d1
   replace hb1:=Hj hb1; clear x1 r1 ho; go_wp2_with fail
   refine (hH.out _).mono ?_
   rintro e w2 ⟨rfl,hb2⟩
   have hB2:=Hj (Below.next hb1.out hb1.out.size hb2); clear hb2; go_wp2; go_ret2
   exact HosR.no hbad.out hB2.out
 ·have hbad:=Hj (hsX_len h1)
  clear hSt hmem; generalize allV l hostN = V at *; have q1 : ((V.length : Int) != 1) = true:=by rw [bne,show ((V.length : Int) == 1) = false from beq_cast_false h1]; rfl
  replace h1:=Hj h1; go_enter Tryz.func27,Tryz.ntmps27
  go_wp2_with fail
  refine (hAl.out _ hR.out).mono ?_
  rintro e w1 ⟨o,rfl,ho,hb1⟩
  obtain ⟨A1,c1,rfl,-,-,-⟩:=Rd.own ho
  replace hb1:=Hj hb1; clear ho; go_wp2; go_ret2
  exact HosR.no hbad.out hb1.out
end Go.Proofs.YtjffffpfejmoiaaGreatDoor
namespace Go.Proofs.YtjffffpfejmoiaaGreatDoor
open Go.RowKit Syn Fr
theorem all_anyF (L : List (Bytes × Bytes)) (name : Bytes) (v : Value) (w : World) (hF : Few L) (hn : name.length ≤ 1000) (hR : Rd w 2 v L.length (prs L)) :
  Calls Tryz.prog 41 #[v,.string (str name)] w fun e w' => ∃ o,e = .returned o ∧ Own w' w.heap.size 9 1 o (allV L name).length (strs (allV L name)) ∧ Below w.heap.size w w' :=
 all_any L name v w (fun p hp => by have:=hF.short p hp; omega) (by have:=hF.len; omega) hn hR
end Go.Proofs.YtjffffpfejmoiaaGreatDoor
