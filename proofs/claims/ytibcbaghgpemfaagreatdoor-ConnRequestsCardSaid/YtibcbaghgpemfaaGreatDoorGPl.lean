import Derived.Test.YtibcbaghgpemfaaGreatDoorGHd
import Derived.Test.YtibcbaghgpemfaaGreatDoorGWr
import Derived.Test.YtibcbaghgpemfaaGreatDoorGHo
import Derived.Test.YtibcbaghgpemfaaGreatDoorGByt
namespace Go.Proofs.YtibcbaghgpemfaaGreatDoor
open Go.RowKit Syn Hd Ck
namespace Hd
end Hd
end Go.Proofs.YtibcbaghgpemfaaGreatDoor
namespace Go.Proofs.YtibcbaghgpemfaaGreatDoor
open Go.RowKit Syn Fr Hd Ck
namespace Hd
def okR (p : List UInt8 × List UInt8) : Prop:=nmE p.1 = 0 ∧ nmV p.1 = p.1 ∧ vlE p.2 = 0 ∧ vlV p.2 = p.2
end Hd
end Go.Proofs.YtibcbaghgpemfaaGreatDoor
namespace Go.Proofs.YtibcbaghgpemfaaGreatDoor
open Go.RowKit Syn Fr Hd Ck
namespace Hd
def wqE (m t : List UInt8) (l : List (List UInt8 × List UInt8)) : Int :=
 if largeB (m.length + t.length + 10) l = true then 5 else if mthB m = false then 26 else if tgtB m t = false then 27 else if okCs l = false then 25 else if hsX l = none then 29 else 0
def wqS (m t : List UInt8) : List UInt8:=m ++ [32] ++ t ++ [32] ++ [72,84,84,80,47,49,46,49]
def wqL (l : List (List UInt8 × List UInt8)) : List (List UInt8 × List UInt8):=(can l).map (rep hostN ((hsX l).getD []))
def wqB (m t : List UInt8) (l : List (List UInt8 × List UInt8)) : List UInt8:=if wqE m t l = 0 then headB (wqS m t) (wqL l) else []
def WqR (w : World) (m t : List UInt8) (l : List (List UInt8 × List UInt8)) (e : Ending) (w' : World) : Prop :=
 ∃ o,e = .returned (.tuple #[o,errV (wqE m t l)]) ∧ OwnM w' w.heap.size o (wqB m t l) ∧ Below w.heap.size w w'
theorem WqR.bad {w w' : World} {m t : List UInt8} {l : List (List UInt8 × List UInt8)} {n : Int} (h : wqE m t l = n) (h0 : n ≠ 0) (hb : Below w.heap.size w w') : WqR w m t l (.returned (.tuple #[.slice none 0 0,.iface 76 (.int .i64 n)])) w' :=
 ⟨.slice none 0 0,by rw [h,herr_ne h0],by unfold wqB; rw [h,if_neg h0]; exact .inl ⟨rfl,rfl⟩,hb⟩
theorem WqR.good {w w' : World} {m t : List UInt8} {l : List (List UInt8 × List UInt8)} {o : Value} (h : wqE m t l = 0) (ho : OwnM w' w.heap.size o (headB (wqS m t) (wqL l))) (hb : Below w.heap.size w w') : WqR w m t l (.returned (.tuple #[o,.nilIface])) w' :=
 ⟨o,by rw [h]; rfl,by unfold wqB; rw [if_pos h]; exact ho,hb⟩
end Hd
end Go.Proofs.YtibcbaghgpemfaaGreatDoor
namespace Go.Proofs.YtibcbaghgpemfaaGreatDoor
open Go.RowKit Syn Fr Hd Ck
namespace Hd
end Hd
end Go.Proofs.YtibcbaghgpemfaaGreatDoor
namespace Go.Proofs.YtibcbaghgpemfaaGreatDoor
open Go.RowKit Syn Fr Hd Ck
namespace Hd
end Hd
end Go.Proofs.YtibcbaghgpemfaaGreatDoor
namespace Go.Proofs.YtibcbaghgpemfaaGreatDoor
open Go.RowKit Syn Fr Hd Ck
namespace Hd
theorem rqE_lnE {b : List UInt8} (h : lnE b ≠ 0) : rqE b = lnE b:=by unfold rqE; rw [if_neg h]
theorem rqE_ok {b : List UInt8} (h : rqE b = 0) : lnE b = 0:=by
 by_cases h1 : lnE b = 0
 ·exact h1
 ·rw [rqE_lnE h1] at h; exact h
theorem lnE_ok {b : List UInt8} (h : lnE b = 0) : ∃ n : Nat,endF b = (n : Int) ∧ 4 ≤ n ∧ n ≤ b.length ∧ n ≤ 8192 ∧ strB (b.take n) = true:=by
 unfold lnE at h
 split at h
 ·cases h
 ·split at h
  ·cases h
  ·next h1 h2 =>
   split at h
   ·cases h
   ·next h3 =>
    split at h
    ·cases h
    ·split at h
     ·cases h
     ·next h5 =>
      rcases endF_cases b with e | ⟨e,-⟩ | ⟨k,e,hk⟩
      ·omega
      ·exact absurd e h3
      ·refine ⟨k + 4,e,by omega,hk,by omega,?_⟩
       rw [e] at h5
       have : ((k + 4 : Nat) : Int).toNat = k + 4:=rfl
       rw [this] at h5
       cases hh : strB (b.take (k + 4)) with
       | true => rfl
       | false => exact absurd hh h5
theorem occ_take {b sub : List UInt8} {i n : Nat} (h : i + sub.length ≤ n) : Lib.occAt (b.take n) sub i = Lib.occAt b sub i:=by
 unfold Lib.occAt
 rw [Bool.eq_iff_iff,List.isPrefixOf_iff_prefix,List.isPrefixOf_iff_prefix,List.prefix_iff_eq_take,List.prefix_iff_eq_take,List.drop_take,List.take_take,show min sub.length (n - i) = sub.length by omega]
theorem endF_same {b d : List UInt8} {n : Nat} (h : endF b = (n : Int)) (h2 : 3 ≤ n) (hl : n ≤ d.length) (he : d.take n = b.take n) : endF d = (n : Int):=by
 unfold endF at h ⊢
 split at h
 ·omega
 ·next hp =>
  have hp2 : ¬ Lib.hasPrefix d [13,10] = true:=fun hh => hp (by
   unfold Lib.hasPrefix at hh ⊢
   rw [List.isPrefixOf_iff_prefix,List.prefix_iff_eq_take] at hh ⊢
   have e:=congrArg (List.take 2) he; rw [List.take_take,List.take_take,show min 2 n = 2 by omega] at e
   exact hh.trans e)
  rw [if_neg hp2]
  split at h
  ·omega
  ·next hi =>
   rcases Lib.index_spec b [13,10,13,10] with ⟨e,-⟩ | ⟨i,e,-,ho,hno⟩
   ·omega
   ·rw [e] at h
    have hin : i + 4 = n:=by omega
    have key : ∀ j,j + 4 ≤ n → Lib.occAt d [13,10,13,10] j = Lib.occAt b [13,10,13,10] j:=fun j hj => by
     have h1:=occ_take (b:=d) (sub:=[13,10,13,10]) (i:=j) (n:=n) hj; have h2:=occ_take (b:=b) (sub:=[13,10,13,10]) (i:=j) (n:=n) hj; rw [← h1,← h2,he]
    have hd : Lib.index d [13,10,13,10] = (i : Int):=Lib.index_first (by omega) (by rw [key i (by omega)]; exact ho) (fun j hj => by rw [key j (by omega)]; exact hno j hj)
    rw [hd,if_neg (by omega)]
    omega
end Hd
end Go.Proofs.YtibcbaghgpemfaaGreatDoor
namespace Go.Proofs.YtibcbaghgpemfaaGreatDoor
open Go.RowKit Syn Fr Hd Ck
namespace Hd
theorem drop_idem {α : Type} (p : α → Bool) : ∀ l : List α,(l.dropWhile p).dropWhile p = l.dropWhile p
 | [] => rfl
 | a :: l => by
  rw [List.dropWhile_cons]
  by_cases h : p a = true
  ·rw [if_pos h]; exact drop_idem p l
  ·rw [if_neg h,List.dropWhile_cons,if_neg h]
theorem drop_pre {α : Type} (p : α → Bool) {x y : List α} (hx : x.dropWhile p = x) (hp : y <+: x) : y.dropWhile p = y:=by
 cases y with
 | nil => rfl
 | cons a r =>
  obtain ⟨t,rfl⟩:=hp
  rw [List.cons_append,List.dropWhile_cons] at hx
  by_cases h : p a = true
  ·rw [if_pos h] at hx
   have h1:=congrArg List.length hx; have h2:=(List.dropWhile_suffix (p:=p) (l:=r ++ t)).length_le; rw [List.length_cons] at h1
   omega
  ·rw [List.dropWhile_cons,if_neg h]
theorem trim_trim (l : List UInt8) : trim (trim l) = trim l:=by
 have hL : (trimL l).dropWhile Syn.blank = trimL l:=drop_idem _ _
 have hp : trim l <+: trimL l:=by
  unfold trim
  have:=List.dropWhile_suffix (p:=Syn.blank) (l:=(trimL l).reverse)
  have h2:=List.reverse_prefix.2 this; rwa [List.reverse_reverse] at h2
 have h1 : trimL (trim l) = trim l:=drop_pre _ hL hp
 show ((trimL (trim l)).reverse.dropWhile Syn.blank).reverse = trim l
 rw [h1]
 unfold trim
 rw [List.reverse_reverse,drop_idem]
theorem trim_mem {l : List UInt8} : ∀ c ∈ trim l,c ∈ l:=by
 intro c hc; unfold trim trimL at hc
 rw [List.mem_reverse] at hc
 have h1:=(List.dropWhile_suffix (p:=Syn.blank) (l:=(l.dropWhile Syn.blank).reverse)).subset hc; rw [List.mem_reverse] at h1
 exact (List.dropWhile_suffix (p:=Syn.blank) (l:=l)).subset h1
theorem vl_trim {v : List UInt8} (h : vlE v = 0) : vlE (vlV v) = 0 ∧ vlV (vlV v) = vlV v:=by
 obtain ⟨h1,h2,h3⟩:=vlE_cln h
 rw [h3]
 have hc : cln (trim v) = true:=by
  unfold cln at *
  rw [List.all_eq_true] at *
  exact fun c hc => h1 c (trim_mem c hc)
 have hE : vlE (trim v) = 0:=by unfold vlE; rw [hc,if_pos rfl,trim_trim,if_neg (by omega)]
 exact ⟨hE,by unfold vlV; rw [if_pos hE,trim_trim]⟩
theorem hd_okR {l : List UInt8} (h : hdE l = 0) : okR (hdV l) ∧ (hdV l).1.length + (hdV l).2.length + 1 ≤ l.length:=by
 have hV : hdV l = (nmV (hdN l),vlV (hdR l)):=by unfold hdV; rw [if_pos h]
 rw [hV]
 unfold hdE at h
 split at h
 ·cases h
 ·split at h
  ·cases h
  ·next h1 =>
   split at h
   ·cases h
   ·split at h
    ·cases h
    ·next h3 =>
     split at h
     ·cases h
     ·next h4 =>
      have h3' : nmE (hdN l) = 0:=Decidable.of_not_not h3
      have h4' : vlE (hdR l) = 0:=Decidable.of_not_not h4
      obtain ⟨a1,a2⟩:=nmE_lower h3'
      obtain ⟨b1,b2⟩:=vl_trim h4'
      refine ⟨⟨a1,a2,b1,b2⟩,?_⟩
      have e1 : (nmV (hdN l)).length = (hdN l).length:=by rw [(nmE_tok h3').2.2,lower_length]
      have e2 : (vlV (hdR l)).length ≤ (hdR l).length:=by rw [(vlE_cln h4').2.2]; exact trim_le _
      have e3 : (hdN l).length + 1 + (hdR l).length = l.length:=by
       have hne : (l.dropWhile (· != 58)) ≠ []:=fun e => h1 (.inl (by rw [e]; rfl))
       have e4:=congrArg List.length (List.takeWhile_append_dropWhile (p:=(· != 58)) (l:=l)); rw [List.length_append] at e4
       unfold hdN hdR
       rw [List.length_drop]
       have : 1 ≤ (l.dropWhile (· != 58)).length:=by
        cases hd : l.dropWhile (· != 58) with
        | nil => exact absurd hd hne
        | cons a b => simp
       omega
      show (nmV (hdN l)).length + (vlV (hdR l)).length + 1 ≤ _
      omega
theorem hds_all : ∀ {L : List (List UInt8)},hdsE L = 0 → ∀ l ∈ L,hdE l = 0
 | [],_,l,h => by simp at h
 | x :: r,h,l,hl => by
  rw [hdsE] at h
  by_cases hx : hdE x = 0
  ·rw [if_pos hx] at h
   rcases List.mem_cons.1 hl with rfl | hl
   ·exact hx
   ·exact hds_all h l hl
  ·rw [if_neg hx] at h; exact absurd h hx
end Hd
end Go.Proofs.YtibcbaghgpemfaaGreatDoor
