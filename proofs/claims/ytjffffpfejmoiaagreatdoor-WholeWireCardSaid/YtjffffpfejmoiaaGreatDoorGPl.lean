import Derived.Test.YtjffffpfejmoiaaGreatDoorGHd
import Derived.Test.YtjffffpfejmoiaaGreatDoorGWr
import Derived.Test.YtjffffpfejmoiaaGreatDoorGHo
import Derived.Test.YtjffffpfejmoiaaGreatDoorGByt
namespace Go.Proofs.YtjffffpfejmoiaaGreatDoor
open Go.RowKit Syn Hd Ck
namespace Hd
def clr (l : List UInt8) : Prop:=∀ c ∈ l,c.toNat ≠ 0 ∧ c.toNat ≠ 10 ∧ c.toNat ≠ 13
def txt (Ls : List (List UInt8)) : List UInt8:=Ls.flatMap (· ++ [13,10])
def jn : List (List UInt8) → List UInt8
 | [] => []
 | [l] => l
 | l :: m :: r => l ++ 13 :: 10 :: jn (m :: r)
theorem clr_ne {l : List UInt8} (h : clr l) : ∀ c ∈ l,c ≠ 13:=fun c hc e => (h c hc).2.2 (by rw [e]; rfl)
theorem txt_cons (l : List UInt8) (r : List (List UInt8)) : txt (l :: r) = l ++ 13 :: 10 :: txt r:=by
 unfold txt; rw [List.flatMap_cons,List.append_assoc]; rfl
theorem txt_jn : ∀ {Ls : List (List UInt8)},Ls ≠ [] → txt Ls = jn Ls ++ [13,10]
 | [],h => absurd rfl h
 | [l],_ => by rw [txt_cons]; rfl
 | l :: m :: r,_ => by rw [txt_cons,txt_jn (by simp),jn]; simp
theorem index_cons (c : UInt8) (l sub : List UInt8) : Lib.index (c :: l) sub = if sub.isPrefixOf (c :: l) = true then 0 else if Lib.index l sub = -1 then -1 else Lib.index l sub + 1:=by
 rw [Lib.index]
 by_cases h : sub.isPrefixOf (c :: l) = true
 ·rw [if_pos h,if_pos h]
 ·rw [if_neg h,if_neg h]
  by_cases h2 : Lib.index l sub = -1
  ·rw [if_pos (by rw [h2]; rfl),if_pos h2]
  ·rw [if_neg (by rw [beq_iff_eq]; exact h2),if_neg h2]
theorem index_skip {sub t : List UInt8} {n : Nat} (ht : Lib.index t (13 :: sub) = (n : Int)) : ∀ (l : List UInt8),(∀ c ∈ l,c ≠ 13) → Lib.index (l ++ t) (13 :: sub) = ((l.length + n : Nat) : Int)
 | [],_ => by rw [List.nil_append,ht,List.length_nil,Nat.zero_add]
 | c :: l,h => by
  have ih:=index_skip ht l (fun x hx => h x (by simp [hx])); have hc:=h c (by simp); rw [List.cons_append,index_cons,if_neg (by rw [List.isPrefixOf_cons_cons]; simp; intro e; exact absurd e.symm hc),ih,if_neg (by omega),List.length_cons]
  omega
theorem index_skip2 {t : List UInt8} {n : Nat} (ht : Lib.index t [13,10,13,10] = (n : Int)) (hp : ([13,10] : List UInt8).isPrefixOf t = false) : Lib.index (13 :: 10 :: t) [13,10,13,10] = ((2 + n : Nat) : Int):=by
 have h1 : ([13,10,13,10] : List UInt8).isPrefixOf (13 :: 10 :: t) = false:=by
  rw [List.isPrefixOf_cons_cons,List.isPrefixOf_cons_cons]; simpa using hp
 have h2 : ([13,10,13,10] : List UInt8).isPrefixOf (10 :: t) = false:=by
  rw [List.isPrefixOf_cons_cons]; rfl
 have h3 : Lib.index (10 :: t) [13,10,13,10] = (n : Int) + 1:=by rw [index_cons,if_neg (by rw [h2]; decide),ht,if_neg (by omega)]
 rw [index_cons,if_neg (by rw [h1]; decide),h3,if_neg (by omega)]
 omega
theorem nopre {l t : List UInt8} (hl : l ≠ []) (h : ∀ c ∈ l,c ≠ 13) : ([13,10] : List UInt8).isPrefixOf (l ++ t) = false:=by
 cases l with
 | nil => exact absurd rfl hl
 | cons c l =>
  rw [List.cons_append,List.isPrefixOf_cons_cons]
  have:=h c (by simp)
  simp; intro e; exact absurd e.symm this
theorem index_txt (rest : List UInt8) : ∀ (l : List UInt8) (r : List (List UInt8)),(∀ x ∈ l :: r,x ≠ [] ∧ clr x) → ∃ n : Nat,Lib.index (txt (l :: r) ++ 13 :: 10 :: rest) [13,10,13,10] = (n : Int) ∧ n + 2 = (txt (l :: r)).length
 | l,[],h => by
  have hc:=clr_ne (h l (by simp)).2; have h0 : Lib.index (13 :: 10 :: 13 :: 10 :: rest) [13,10,13,10] = ((0 : Nat) : Int):=by
   rw [index_cons,if_pos (by simp)]; rfl
  refine ⟨l.length + 0,?_,?_⟩
  ·rw [txt_cons,List.append_assoc]
   exact index_skip h0 l hc
  ·rw [txt_cons,List.length_append]; rfl
 | l,m :: r,h => by
  obtain ⟨n,h1,h2⟩:=index_txt rest m r (fun x hx => h x (by simp at hx ⊢; right; exact hx))
  have hm:=h m (by simp); have h3:=index_skip2 h1 (by
   rw [txt_cons,List.append_assoc]; exact nopre hm.1 (clr_ne hm.2))
  refine ⟨l.length + (2 + n),?_,?_⟩
  ·rw [txt_cons l,List.append_assoc]
   exact index_skip h3 l (clr_ne (h l (by simp)).2)
  ·rw [txt_cons l,List.length_append,List.length_cons,List.length_cons,← h2]; omega
theorem endF_txt {l : List UInt8} {r : List (List UInt8)} (rest : List UInt8) (h : ∀ x ∈ l :: r,x ≠ [] ∧ clr x) : endF (txt (l :: r) ++ 13 :: 10 :: rest) = (((txt (l :: r)).length + 2 : Nat) : Int):=by
 obtain ⟨n,h1,h2⟩:=index_txt rest l r h
 unfold endF Lib.hasPrefix
 have hl:=h l (by simp); rw [if_neg (by rw [txt_cons,List.append_assoc,nopre hl.1 (clr_ne hl.2)]; decide),h1,if_neg (by omega)]
 omega
theorem index_none13 : ∀ (l : List UInt8),(∀ c ∈ l,c ≠ 13) → Lib.index l [13,10] = -1
 | [],_ => rfl
 | c :: l,h => by
  have ih:=index_none13 l (fun x hx => h x (by simp [hx])); have hc:=h c (by simp); rw [index_cons,if_neg (by rw [List.isPrefixOf_cons_cons]; simp; intro e; exact absurd e.symm hc),if_pos ih]
theorem index_jn (l t : List UInt8) (h : ∀ c ∈ l,c ≠ 13) : Lib.index (l ++ 13 :: 10 :: t) [13,10] = (l.length : Int):=by
 have h0 : Lib.index (13 :: 10 :: t) [13,10] = ((0 : Nat) : Int):=by rw [index_cons,if_pos (by simp)]; rfl
 have:=index_skip h0 l h
 rw [Nat.add_zero] at this; exact this
theorem splitK_jn : ∀ (r : List (List UInt8)) (l : List UInt8) (k : Nat),(∀ x ∈ l :: r,clr x) → r.length ≤ k → Lib.splitK [13,10] 0 k (jn (l :: r)) = l :: r
 | [],l,k,h,_ => by
  show Lib.splitK [13,10] 0 k l = [l]
  cases k with
  | zero => rfl
  | succ k => rw [Lib.splitK,if_pos (by rw [index_none13 l (clr_ne (h l (by simp)))]; rfl)]
 | m :: r,l,0,_,hk => by simp at hk
 | m :: r,l,k + 1,h,hk => by
  have hl:=clr_ne (h l (by simp)); have ih:=splitK_jn r m k (fun x hx => h x (by simp at hx ⊢; right; exact hx)) (by simpa using hk)
  rw [jn,Lib.splitK,index_jn l _ hl,if_neg (by rw [beq_iff_eq]; omega)]
  have e1 : (l ++ 13 :: 10 :: jn (m :: r)).take (((l.length : Int)).toNat + 0) = l:=by
   rw [show ((l.length : Int)).toNat + 0 = l.length from rfl,List.take_left']; rfl
  have e2 : (l ++ 13 :: 10 :: jn (m :: r)).drop (((l.length : Int)).toNat + ([13,10] : List UInt8).length) = jn (m :: r):=by
   rw [show ((l.length : Int)).toNat + ([13,10] : List UInt8).length = l.length + 2 from rfl,← List.drop_drop,List.drop_left']
   rfl
   rfl
  rw [e1,e2,ih]
theorem count_jn : ∀ (r : List (List UInt8)) (l : List UInt8),(∀ x ∈ l :: r,clr x) → Lib.count (jn (l :: r)) [13,10] = r.length
 | [],l,h => Lib.count_miss (index_none13 l (clr_ne (h l (by simp))))
 | m :: r,l,h => by
  have hl:=clr_ne (h l (by simp)); have ih:=count_jn r m (fun x hx => h x (by simp at hx ⊢; right; exact hx))
  rw [jn,Lib.count_hit (i:=l.length) (by simp) (index_jn l _ hl)]
  rw [show l.length + ([13,10] : List UInt8).length = l.length + 2 from rfl,← List.drop_drop,List.drop_left' rfl]
  show 1 + Lib.count (jn (m :: r)) [13,10] = _
  rw [ih,List.length_cons]; omega
theorem spl_jn {l : List UInt8} {r : List (List UInt8)} (h : ∀ x ∈ l :: r,clr x) : spl (jn (l :: r)) = l :: r:=by
 unfold spl; rw [count_jn r l h]; exact splitK_jn r l _ h (Nat.le_refl _)
theorem strR_line : ∀ (l t : List UInt8),clr l → strR false (l ++ t) = strR false t
 | [],_,_ => rfl
 | c :: l,t,h => by
  have hc:=h c (by simp); rw [List.cons_append,strR_go hc.1 hc.2.1,decide_eq_false hc.2.2,strR_line l t (fun x hx => h x (by simp [hx]))]
theorem strR_end (t : List UInt8) : strR false (13 :: 10 :: t) = strR false t:=by
 rw [strR_go (by decide) (by decide),show decide ((13 : UInt8).toNat = 13) = true from rfl,strR_lf (by decide)]; rfl
theorem strB_txt : ∀ (Ls : List (List UInt8)) (t : List UInt8),(∀ x ∈ Ls,clr x) → strR false (txt Ls ++ t) = strR false t
 | [],_,_ => rfl
 | l :: r,t,h => by
  rw [txt_cons,List.append_assoc,strR_line l _ (h l (by simp))]
  show strR false (13 :: 10 :: (txt r ++ t)) = _
  rw [strR_end,strB_txt r t (fun x hx => h x (by simp [hx]))]
theorem lines_txt {l : List UInt8} {r : List (List UInt8)} (rest : List UInt8) (h : ∀ x ∈ l :: r,x ≠ [] ∧ clr x) (h8 : (txt (l :: r)).length + 2 ≤ 8192) (h64 : r.length ≤ 64) :
  lnE (txt (l :: r) ++ 13 :: 10 :: rest) = 0 ∧ lnL (txt (l :: r) ++ 13 :: 10 :: rest) = l :: r ∧ endF (txt (l :: r) ++ 13 :: 10 :: rest) = (((txt (l :: r)).length + 2 : Nat) : Int):=by
 have he:=endF_txt rest h; have hj:=txt_jn (Ls:=l :: r) (by simp); have hlen : (txt (l :: r)).length = (jn (l :: r)).length + 2:=by rw [hj,List.length_append]; rfl
 have hL : lnL (txt (l :: r) ++ 13 :: 10 :: rest) = l :: r:=by
  unfold lnL
  rw [he,show (((txt (l :: r)).length + 2 : Nat) : Int).toNat - 4 = (jn (l :: r)).length by omega,hj,List.append_assoc,List.take_left' rfl]
  exact spl_jn (fun x hx => (h x hx).2)
 refine ⟨?_,hL,he⟩
 unfold lnE
 have hl1 : 1 ≤ l.length:=by
  have:=(h l (by simp)).1
  cases l with
  | nil => exact absurd rfl this
  | cons a b => simp
 have h2 : 3 ≤ (txt (l :: r)).length:=by rw [txt_cons,List.length_append,List.length_cons,List.length_cons]; omega
 have hs : strB ((txt (l :: r) ++ 13 :: 10 :: rest).take ((((txt (l :: r)).length + 2 : Nat) : Int).toNat)) = true:=by
  rw [show (((txt (l :: r)).length + 2 : Nat) : Int).toNat = (txt (l :: r)).length + 2 from rfl,List.take_length_add_append]
  unfold strB
  rw [strB_txt _ _ (fun x hx => (h x hx).2)]
  show strR false [13,10] = true
  rw [strR_end]; rfl
 rw [hL,he,if_neg (by omega),if_neg (by omega),if_neg (by omega),if_neg (by rw [List.length_cons]; omega),hs]
 rfl
end Hd
end Go.Proofs.YtjffffpfejmoiaaGreatDoor
namespace Go.Proofs.YtjffffpfejmoiaaGreatDoor
open Go.RowKit Syn Fr Hd Ck
namespace Hd
def ftx (p : List UInt8 × List UInt8) : List UInt8:=p.1 ++ 58 :: 32 :: p.2
theorem ln_ftx (p : List UInt8 × List UInt8) : ln p = ftx p ++ [13,10]:=by unfold ln ftx; simp
theorem lns_txt (l : List (List UInt8 × List UInt8)) : lns l = txt (l.map ftx):=by
 unfold lns txt
 rw [List.flatMap_map]
 congr 1
 funext p
 exact ln_ftx p
theorem head_txt (st : List UInt8) (l : List (List UInt8 × List UInt8)) (rest : List UInt8) : headB st l ++ rest = txt (st :: l.map ftx) ++ 13 :: 10 :: rest:=by
 unfold headB
 rw [txt_cons,← lns_txt]; simp
theorem head_len (st : List UInt8) (l : List (List UInt8 × List UInt8)) : (headB st l).length = (txt (st :: l.map ftx)).length + 2:=by
 have:=congrArg List.length (head_txt st l [])
 rw [List.append_nil,List.length_append] at this
 exact this
def okR (p : List UInt8 × List UInt8) : Prop:=nmE p.1 = 0 ∧ nmV p.1 = p.1 ∧ vlE p.2 = 0 ∧ vlV p.2 = p.2
theorem tok_byte {x : List UInt8} (h : isTok x = true) : ∀ c ∈ x,c ≠ 32 ∧ c ≠ 9:=fun c hc => by
 unfold isTok at h
 rw [Bool.and_eq_true,List.all_eq_true] at h
 have:=h.1 c hc
 constructor
 ·intro e; rw [e] at this; exact absurd this (by decide)
 ·intro e; rw [e] at this; exact absurd this (by decide)
theorem okR_can {l : List (List UInt8 × List UInt8)} (h : okCs l = true) : ∀ p ∈ can l,okR p:=by
 intro p hp; obtain ⟨q,hq,rfl⟩:=List.mem_map.1 hp
 obtain ⟨h1,h2,h3⟩:=(okC_iff q.1 q.2).1 (List.all_eq_true.1 h q hq)
 obtain ⟨h4,h5⟩:=nmE_lower h1
 exact ⟨h4,h5,h2,h3⟩
theorem ftx_line {p : List UInt8 × List UInt8} (h : okR p) : ftx p ≠ [] ∧ clr (ftx p):=by
 obtain ⟨h1,-,h3,-⟩:=h
 refine ⟨by unfold ftx; simp,fun c hc => ?_⟩
 unfold ftx at hc
 rw [List.mem_append,List.mem_cons,List.mem_cons] at hc
 rcases hc with hc | rfl | rfl | hc
 ·exact cln_byte (tok_clean (nmE_tok h1).1) c hc
 ·decide
 ·decide
 ·exact cln_byte (vlE_cln h3).1 c hc
theorem hd_ftx {p : List UInt8 × List UInt8} (h : okR p) : hdE (ftx p) = 0 ∧ hdV (ftx p) = p:=by
 obtain ⟨n,v⟩:=p
 obtain ⟨h1,h2,h3,h4⟩:=h
 simp only at h1 h2 h3 h4
 obtain ⟨ht,-,-⟩:=nmE_tok h1
 obtain ⟨e1,e2⟩:=take58 n (32 :: v) (tok58 ht)
 have hne : n ≠ []:=by rintro rfl; exact absurd ht (by decide)
 have eN : hdN (ftx (n,v)) = n:=e1
 have eR : hdR (ftx (n,v)) = 32 :: v:=by unfold hdR ftx; rw [e2]; rfl
 have eE : ((ftx (n,v)).dropWhile (· != 58)).isEmpty = false:=by
  show ((n ++ 58 :: 32 :: v).dropWhile (· != 58)).isEmpty = false
  rw [e2]; rfl
 have hf : ∀ k : UInt8,k = 32 ∨ k = 9 → fst k (ftx (n,v)) = false:=fun k hk => by
  cases n with
  | nil => exact absurd rfl hne
  | cons c r =>
   have hb:=tok_byte ht c (by simp); unfold fst ftx
   show decide (c = k) = false
   rw [decide_eq_false_iff_not]
   rcases hk with rfl | rfl
   ·exact hb.1
   ·exact hb.2
 have hbl : n.any Syn.blank = false:=by
  rw [List.any_eq_false]
  intro c hc; have hb:=tok_byte ht c hc; unfold Syn.blank
  simp [hb.1,hb.2]
 obtain ⟨v1,v2⟩:=vlE_sp h3
 have hE : hdE (ftx (n,v)) = 0:=by
  unfold hdE
  rw [if_neg (by rw [hf 32 (.inl rfl),hf 9 (.inr rfl)]; simp),if_neg (by rw [eE,eN]; simp [hne]),eN,if_neg (by rw [hbl]; decide),if_neg (fun h => h h1),eR,if_neg (fun h => h v1)]
 refine ⟨hE,?_⟩
 unfold hdV
 rw [if_pos hE,eN,eR,h2,v2,h4]
theorem hds_ftx : ∀ {l : List (List UInt8 × List UInt8)},(∀ p ∈ l,okR p) → hdsE (l.map ftx) = 0 ∧ (l.map ftx).map hdV = l
 | [],_ => ⟨rfl,rfl⟩
 | p :: r,h => by
  obtain ⟨h1,h2⟩:=hd_ftx (h p (by simp))
  obtain ⟨h3,h4⟩:=hds_ftx (l:=r) (fun q hq => h q (by simp [hq]))
  constructor
  ·rw [List.map_cons,hdsE,if_pos h1,h3]
  ·rw [List.map_cons,List.map_cons,h2,h4]
theorem take32 : ∀ (x y : List UInt8),(∀ c ∈ x,c ≠ 32) → (x ++ 32 :: y).takeWhile (· != 32) = x ∧ (x ++ 32 :: y).dropWhile (· != 32) = 32 :: y
 | [],y,_ => ⟨rfl,rfl⟩
 | c :: x,y,h => by
  have hc:=h c (by simp); obtain ⟨h1,h2⟩:=take32 x y (fun d hd => h d (by simp [hd]))
  rw [List.cons_append,List.takeWhile_cons,List.dropWhile_cons,if_pos (by simpa using hc),if_pos (by simpa using hc),h1,h2]
  exact ⟨rfl,rfl⟩
end Hd
end Go.Proofs.YtjffffpfejmoiaaGreatDoor
namespace Go.Proofs.YtjffffpfejmoiaaGreatDoor
open Go.RowKit Syn Fr Hd Ck
namespace Hd
def wqE (m t : List UInt8) (l : List (List UInt8 × List UInt8)) : Int :=
 if largeB (m.length + t.length + 10) l = true then 5 else if mthB m = false then 26 else if tgtB m t = false then 27 else if okCs l = false then 25 else if hsX l = none then 29 else 0
def wqS (m t : List UInt8) : List UInt8:=m ++ [32] ++ t ++ [32] ++ [72,84,84,80,47,49,46,49]
def wqL (l : List (List UInt8 × List UInt8)) : List (List UInt8 × List UInt8):=(can l).map (rep hostN ((hsX l).getD []))
def wqB (m t : List UInt8) (l : List (List UInt8 × List UInt8)) : List UInt8:=if wqE m t l = 0 then headB (wqS m t) (wqL l) else []
def WqR (w : World) (m t : List UInt8) (l : List (List UInt8 × List UInt8)) (e : Ending) (w' : World) : Prop :=
 ∃ o,e = .returned (.tuple #[o,errV (wqE m t l)]) ∧ OwnM w' w.heap.size o (wqB m t l) ∧ Below w.heap.size w w'
theorem WqR.bad {w w' : World} {m t : List UInt8} {l : List (List UInt8 × List UInt8)} {n : Int} (h : wqE m t l = n) (h0 : n ≠ 0) (hb : Below w.heap.size w w') : WqR w m t l (.returned (.tuple #[.slice none 0 0,.iface 57 (.int .i64 n)])) w' :=
 ⟨.slice none 0 0,by rw [h,herr_ne h0],by unfold wqB; rw [h,if_neg h0]; exact .inl ⟨rfl,rfl⟩,hb⟩
theorem WqR.good {w w' : World} {m t : List UInt8} {l : List (List UInt8 × List UInt8)} {o : Value} (h : wqE m t l = 0) (ho : OwnM w' w.heap.size o (headB (wqS m t) (wqL l))) (hb : Below w.heap.size w w') : WqR w m t l (.returned (.tuple #[o,.nilIface])) w' :=
 ⟨o,by rw [h]; rfl,by unfold wqB; rw [if_pos h]; exact ho,hb⟩
theorem allV_can : ∀ {l : List (List UInt8 × List UInt8)} (nm : List UInt8),okCs l = true → allV (can l) nm = allV l nm
 | [],_,_ => rfl
 | p :: r,nm,h => by
  unfold okCs at h
  rw [List.all_cons,Bool.and_eq_true] at h
  have h1:=((okC_iff p.1 p.2).1 h.1).1; have hv : nmV p.1 = Syn.lower p.1:=by unfold nmV; rw [if_pos h1]
  have:=allV_can (l:=r) nm h.2
  rw [show can (p :: r) = (nmV p.1,p.2) :: can r from rfl,allV_cons,allV_cons,this]
  show (if Syn.lower (nmV p.1) = _ then _ else _) = _
  rw [hv,lower_lower]
theorem hsX_can {l : List (List UInt8 × List UInt8)} (h : okCs l = true) : hsX (can l) = hsX l:=by
 unfold hsX; rw [allV_can hostN h]
theorem rep_size {l : List (List UInt8 × List UInt8)} {M : Nat} {h : List UInt8} (hh : h.length ≤ M) (hM : 4 ≤ M) (hs : ∀ p ∈ l,p.1.length ≤ M ∧ p.2.length ≤ M) : ∀ p ∈ l.map (rep hostN h),p.1.length ≤ M ∧ p.2.length ≤ M:=by
 intro p hp; obtain ⟨q,hq,rfl⟩:=List.mem_map.1 hp
 unfold rep
 split
 ·exact ⟨hM,hh⟩
 ·exact hs q hq
theorem hsX_size {l : List (List UInt8 × List UInt8)} {M : Nat} {h : List UInt8} (hx : hsX l = some h) (hs : ∀ p ∈ l,p.1.length ≤ M ∧ p.2.length ≤ M) : h.length ≤ M:=by
 unfold hsX at hx
 split at hx
 ·next x he =>
  split at hx
  ·cases hx
   obtain ⟨p,hp,rfl⟩:=allV_mem (show x ∈ allV l hostN by rw [he]; simp)
   rw [lower_length]
   exact (hs p hp).2
  ·cases hx
 ·cases hx
end Hd
set_option maxRecDepth 100000 in
set_option maxHeartbeats 16000000 in
theorem wreq_any (m t : List UInt8) (l : List (List UInt8 × List UInt8)) (v : Value) (w : World) (hmt : m.length + t.length ≤ 50000) (hR : Rd w 2 v l.length (prs l)) (hs : ∀ p ∈ l,p.1.length ≤ 1000000 ∧ p.2.length ≤ 1000000) (hm : l.length ≤ 1000) :
    Calls Tryz.prog 7 #[.agg #[.string (str m),.string (str t),v]] w (WqR w m t l):=by
  obtain ⟨A,cap,rfl,hcap,-,-⟩:=id hR
  have hK:=Blk.new w 30 #[.string (str m),.string (str t),.slice A l.length cap]
  have hb0:=(Below.refl w.heap.size w).alloc (Nat.le_refl _) (.cells #[.string (str m),.string (str t),.slice A l.length cap] 30)
  have hLa:=fun w' (hb : Below w.heap.size w w') => hlarge_any (m.length + t.length + 10) l (.slice A l.length cap) w' (by omega) (hR.below hb) hs hm
  have hCa:=fun w' (hb : Below w.heap.size w w') => canonical_any l (.slice A l.length cap) w' (hR.below hb) hs hm
  have hMe:=fun w' => method_any (str m) w' (by rw [str_size]; omega)
  have hTa:=fun w' => target_any (str m) (str t) w' (by rw [str_size]; omega)
  rw [bs_str] at hMe
  rw [bs_str,bs_str] at hTa
  have hE : wqE m t l = if largeB (m.length + t.length + 10) l = true then 5 else if mthB m = false then 26 else if tgtB m t = false then 27 else if okCs l = false then 25 else if hsX l = none then 29 else 0:=rfl
  have e0 : str (wqS m t) = (((str m ++ ⟨#[32]⟩) ++ str t) ++ ⟨#[32]⟩) ++ ⟨#[72,84,84,80,47,49,46,49]⟩:=by
    unfold wqS; rw [← str_append,← str_append,← str_append,← str_append]; rfl
  have hsl : (wqS m t).length = m.length + t.length + 10:=by unfold wqS; simp only [List.length_append,List.length_cons,List.length_nil]; omega
  have z1 : (str m).size = m.length:=str_size _
  have z2 : (str t).size = t.length:=str_size _
  have q1 : (str m ++ (⟨#[32]⟩ : ByteArray)).size = m.length + 1:=by rw [ByteArray.size_append,z1]; rfl
  have q2 : (str m ++ (⟨#[32]⟩ : ByteArray) ++ str t).size = m.length + 1 + t.length:=by rw [ByteArray.size_append,q1,z2]
  have q3 : (str m ++ (⟨#[32]⟩ : ByteArray) ++ str t ++ ⟨#[32]⟩).size = m.length + 1 + t.length + 1:=by rw [ByteArray.size_append,q2]; rfl
  have q4 : (str m ++ (⟨#[32]⟩ : ByteArray) ++ str t ++ ⟨#[32]⟩ ++ ⟨#[72,84,84,80,47,49,46,49]⟩).size = m.length + t.length + 10:=by rw [ByteArray.size_append,q3]; show _ + 8 = _; omega
  obtain ⟨big,hbig⟩ : ∃ b,largeB (m.length + t.length + 10) l = b:=⟨_,rfl⟩
  rw [hbig] at hE
  simp only [hbig] at hLa
  rw [show ((m.length + t.length + 10 : Nat) : Int) = (m.length : Int) + (t.length : Int) + 10 by omega] at hLa
  replace hbig:=Hj hbig
  replace hR:=Hj hR
  replace hLa:=Hj hLa
  replace hCa:=Hj hCa
  replace hMe:=Hj hMe
  replace hTa:=Hj hTa
  replace hK:=Hj hK
  have hc0:=hK.out.cell 0
  have hc1:=hK.out.cell 1
  have hc2:=hK.out.cell 2
  replace hb0:=Hj hb0
  have hHo:=Hj (fun (w' : World) v (h : Rd w' 2 v (can l).length (prs (can l))) => hosted_any (can l) v w' (can_size hs) (by unfold can; rw [List.length_map]; exact hm) h)
  have hWt:=Hj (fun (h : List UInt8) (hx : hsX l = some h) (w' : World) v (hr : Rd w' 2 v ((can l).map (rep hostN h)).length (prs ((can l).map (rep hostN h)))) => written_any (wqS m t) ((can l).map (rep hostN h)) v w' (by omega) hr (rep_size (hsX_size hx hs) (by omega) (can_size hs)) (by unfold can; rw [List.length_map,List.length_map]; exact hm))
  rw [e0] at hWt
  replace hsl:=Hj hsl
  replace e0:=Hj e0
  cases big with
  | true =>
    replace hE:=Hj (hE.trans (if_pos rfl))
    generalize str m = sm at *
    generalize str t = sd at *
    go_enter Tryz.func7,Tryz.ntmps7
    go_wp2_with fail
    refine (hLa.out _ hb0.out).mono ?_
    rintro e w2 ⟨rfl,hb2⟩
    have hB2:=Hj (Below.next hb0.out hb0.out.size hb2)
    have hK2:=hK.out.below hb2
    have c20:=hK2.cell 0
    have c21:=hK2.cell 1
    have c22:=hK2.cell 2
    replace hK2:=Hj hK2
    clear hb2
    go_wp2
    go_ret2
    exact WqR.bad hE.out (by decide) hB2.out
  | false =>
   rw [if_neg (by simp)] at hE
   cases k1 : mthB m with
   | false =>
    replace hE:=Hj (hE.trans (if_pos k1))
    rw [k1] at hMe
    replace k1:=Hj k1
    generalize str m = sm at *
    generalize str t = sd at *
    go_enter Tryz.func7,Tryz.ntmps7
    go_wp2_with fail
    refine (hLa.out _ hb0.out).mono ?_
    rintro e w2 ⟨rfl,hb2⟩
    have hB2:=Hj (Below.next hb0.out hb0.out.size hb2)
    have hK2:=hK.out.below hb2
    have c20:=hK2.cell 0
    have c21:=hK2.cell 1
    have c22:=hK2.cell 2
    replace hK2:=Hj hK2
    clear hb2
    go_wp2_with fail
    refine (hMe.out _).mono ?_
    rintro e w3 ⟨rfl,rfl⟩
    go_wp2
    go_ret2
    exact WqR.bad hE.out (by decide) hB2.out
   | true =>
    rw [if_neg (by rw [k1]; decide)] at hE
    rw [k1] at hMe
    replace k1:=Hj k1
    cases k2 : tgtB m t with
    | false =>
     replace hE:=Hj (hE.trans (if_pos k2))
     rw [k2] at hTa
     replace k2:=Hj k2
     generalize str m = sm at *
     generalize str t = sd at *
     go_enter Tryz.func7,Tryz.ntmps7
     go_wp2_with fail
     refine (hLa.out _ hb0.out).mono ?_
     rintro e w2 ⟨rfl,hb2⟩
     have hB2:=Hj (Below.next hb0.out hb0.out.size hb2)
     have hK2:=hK.out.below hb2
     have c20:=hK2.cell 0
     have c21:=hK2.cell 1
     have c22:=hK2.cell 2
     replace hK2:=Hj hK2
     clear hb2
     go_wp2_with fail
     refine (hMe.out _).mono ?_
     rintro e w3 ⟨rfl,rfl⟩
     go_wp2_with fail
     refine (hTa.out _).mono ?_
     rintro e w3 ⟨rfl,rfl⟩
     go_wp2
     go_ret2
     exact WqR.bad hE.out (by decide) hB2.out
    | true =>
     rw [if_neg (by rw [k2]; decide)] at hE
     rw [k2] at hTa
     replace k2:=Hj k2
     generalize str m = sm at *
     generalize str t = sd at *
     cases k3 : okCs l with
     | false =>
      replace hE:=Hj (hE.trans (if_pos k3))
      replace k3:=Hj k3
      go_enter Tryz.func7,Tryz.ntmps7
      go_wp2_with fail
      refine (hLa.out _ hb0.out).mono ?_
      rintro e w2 ⟨rfl,hb2⟩
      have hB2:=Hj (Below.next hb0.out hb0.out.size hb2)
      have hK2:=hK.out.below hb2
      have c20:=hK2.cell 0
      have c21:=hK2.cell 1
      have c22:=hK2.cell 2
      replace hK2:=Hj hK2
      clear hb2
      go_wp2_with fail
      refine (hMe.out _).mono ?_
      rintro e w3 ⟨rfl,rfl⟩
      go_wp2_with fail
      refine (hTa.out _).mono ?_
      rintro e w3 ⟨rfl,rfl⟩
      go_wp2_with fail
      refine (hCa.out _ hB2.out).mono ?_
      rintro e w3 h3
      obtain ⟨o3,rfl,hb3⟩:=CanR.no h3 (by rw [k3.out]; decide)
      have hB3:=Hj (Below.next hB2.out hB2.out.size hb3)
      clear hb3 h3 c20 c21 c22
      go_wp2
      go_ret2
      exact WqR.bad hE.out (by decide) hB3.out
     | true =>
      rw [if_neg (by rw [k3]; decide)] at hE
      have hxc:=hsX_can k3
      cases k4 : hsX l with
      | none =>
       replace hE:=Hj (hE.trans (if_pos k4))
       rw [k4] at hxc
       replace hxc:=Hj hxc
       replace k3:=Hj k3
       replace k4:=Hj k4
       go_enter Tryz.func7,Tryz.ntmps7
       go_wp2_with fail
       refine (hLa.out _ hb0.out).mono ?_
       rintro e w2 ⟨rfl,hb2⟩
       have hB2:=Hj (Below.next hb0.out hb0.out.size hb2)
       have hK2:=hK.out.below hb2
       have c20:=hK2.cell 0
       have c21:=hK2.cell 1
       have c22:=hK2.cell 2
       replace hK2:=Hj hK2
       clear hb2
       go_wp2_with fail
       refine (hMe.out _).mono ?_
       rintro e w3 ⟨rfl,rfl⟩
       go_wp2_with fail
       refine (hTa.out _).mono ?_
       rintro e w3 ⟨rfl,rfl⟩
       go_wp2_with fail
       refine (hCa.out _ hB2.out).mono ?_
       rintro e w3 h3
       obtain ⟨o3,rfl,ho3,hb3⟩:=CanR.yes h3 k3.out
       have hB3:=Hj (Below.next hB2.out hB2.out.size hb3)
       have hr3:=Hj (Rd.own ho3)
       clear hb3 h3 ho3 c20 c21 c22
       go_wp2_with fail
       refine (hHo.out _ _ hr3.out).mono ?_
       rintro e w4 ⟨h4,hb4⟩
       have hB4:=Hj (Below.next hB3.out hB3.out.size hb4)
       obtain rfl : e = .returned (.tuple #[.slice none 0 0,.iface 57 (.int .i64 29)]):=by
         rcases h4 with ⟨-,h4⟩ | ⟨h,o,h4,-⟩
         · exact h4
         · rw [hxc.out] at h4; cases h4
       clear hb4 h4
       go_wp2
       go_ret2
       exact WqR.bad hE.out (by decide) hB4.out
      | some h =>
       rw [if_neg (by rw [k4]; exact fun h => by cases h)] at hE
       rw [k4] at hxc
       have hWt2:=Hj (hWt.out h k4)
       have hwl : wqL l = (can l).map (rep hostN h):=by unfold wqL; rw [k4]; rfl
       replace hwl:=Hj hwl
       replace hE:=Hj hE
       replace hxc:=Hj hxc
       replace k3:=Hj k3
       replace k4:=Hj k4
       clear hWt
       go_enter Tryz.func7,Tryz.ntmps7
       go_wp2_with fail
       refine (hLa.out _ hb0.out).mono ?_
       rintro e w2 ⟨rfl,hb2⟩
       have hB2:=Hj (Below.next hb0.out hb0.out.size hb2)
       have hK2:=hK.out.below hb2
       have c20:=hK2.cell 0
       have c21:=hK2.cell 1
       have c22:=hK2.cell 2
       replace hK2:=Hj hK2
       clear hb2
       go_wp2_with fail
       refine (hMe.out _).mono ?_
       rintro e w3 ⟨rfl,rfl⟩
       go_wp2_with fail
       refine (hTa.out _).mono ?_
       rintro e w3 ⟨rfl,rfl⟩
       go_wp2_with fail
       refine (hCa.out _ hB2.out).mono ?_
       rintro e w3 h3
       obtain ⟨o3,rfl,ho3,hb3⟩:=CanR.yes h3 k3.out
       have hB3:=Hj (Below.next hB2.out hB2.out.size hb3)
       have hr3:=Hj (Rd.own ho3)
       clear hb3 h3 ho3 c20 c21 c22
       go_wp2_with fail
       refine (hHo.out _ _ hr3.out).mono ?_
       rintro e w4 ⟨h4,hb4⟩
       have hB4:=Hj (Below.next hB3.out hB3.out.size hb4)
       obtain ⟨o4,rfl,ho4⟩ : ∃ o,e = .returned (.tuple #[o,.nilIface]) ∧ Own w4 w3.heap.size 26 2 o ((can l).map (rep hostN h)).length (prs ((can l).map (rep hostN h))):=by
         rcases h4 with ⟨h4,-⟩ | ⟨h',o,h4,h5,h6⟩
         · rw [hxc.out] at h4; cases h4
         · rw [hxc.out] at h4; cases h4; exact ⟨o,h5,h6⟩
       have hr4:=Hj (Rd.own ho4)
       clear hb4 h4 ho4
       go_wp2_with fail
       refine (hWt2.out _ _ hr4.out).mono ?_
       rintro e w5 ⟨o5,rfl,ho5,hb5⟩
       have hB5:=Hj (Below.next hB4.out hB4.out.size hb5)
       have ho6:=Hj (ho5.base hB4.out.size)
       clear hb5 ho5
       go_wp2
       go_ret2
       exact WqR.good hE.out (by rw [hwl.out]; exact ho6.out) hB5.out
end Go.Proofs.YtjffffpfejmoiaaGreatDoor
namespace Go.Proofs.YtjffffpfejmoiaaGreatDoor
open Go.RowKit Syn Fr Hd Ck
namespace Hd
theorem hsX_val {l : List (List UInt8 × List UInt8)} {h : List UInt8} (hx : hsX l = some h) : ∃ x,allV l hostN = [x] ∧ h = Syn.lower x:=by
 unfold hsX at hx
 split at hx
 ·next x he =>
  split at hx
  ·exact ⟨x,he,(Option.some.inj hx).symm⟩
  ·cases hx
 ·cases hx
theorem lnsR_host {l : List (List UInt8 × List UInt8)} {h : List UInt8} (hok : okCs l = true) (hx : hsX l = some h) : lnsR (l.map repR) = lns ((can l).map (rep hostN h)):=by
 obtain ⟨x,hv,rfl⟩:=hsX_val hx
 unfold lnsR lns can
 rw [List.map_map,List.flatMap_def,List.flatMap_def,List.map_map,List.map_map]
 congr 1
 refine List.map_congr_left fun p hp => ?_
 have h1:=((okC_iff p.1 p.2).1 (List.all_eq_true.1 hok p hp)).1; have hn : nmV p.1 = Syn.lower p.1:=by unfold nmV; rw [if_pos h1]
 have hr : nmR p.1 = Syn.lower p.1:=by unfold nmR; rw [if_pos h1,hn]
 show lnR (repR p) = ln (rep hostN (Syn.lower x) (nmV p.1,p.2))
 unfold repR rep
 show _ = ln (if Syn.lower (nmV p.1) = hostN then _ else _)
 rw [hn,lower_lower]
 by_cases he : Syn.lower p.1 = hostN
 ·rw [if_pos he,if_pos he]
  obtain ⟨k,hk,rfl⟩:=List.mem_iff_getElem.1 hp
  have:=allV_at hk he
  rw [hv,List.mem_singleton] at this
  show ln (nmR l[k].1,Syn.lower l[k].2) = _
  rw [hr,he,this]
 ·rw [if_neg he,if_neg he]
  show ln (nmR p.1,p.2) = _
  rw [hr]
theorem lnsR_repR (l : List (List UInt8 × List UInt8)) : (lnsR (l.map repR)).length = (lns l).length:=by
 rw [lnsR_len]
 unfold lns
 rw [List.length_flatMap,List.length_flatMap,List.map_map]
 congr 1
 refine List.map_congr_left fun p _ => ?_
 show (ln (repR p)).length = _
 rw [ln_len,ln_len]
 unfold repR
 split
 ·rw [lower_length]
 ·rfl
end Hd
end Go.Proofs.YtjffffpfejmoiaaGreatDoor
namespace Go.Proofs.YtjffffpfejmoiaaGreatDoor
open Go.RowKit Syn Fr Hd Ck
namespace Hd
theorem sp_mem (k : UInt8) : ∀ (s : List UInt8),∀ c ∈ s,c = k ∨ ∃ x ∈ sp k s,c ∈ x
 | [],c,h => by simp at h
 | y :: r,c,h => by
  unfold sp
  by_cases hy : y = k
  ·rw [if_pos hy]
   rcases List.mem_cons.1 h with rfl | h
   ·exact .inl hy
   ·rcases sp_mem k r c h with e | ⟨x,hx,hc⟩
    ·exact .inl e
    ·exact .inr ⟨x,by simp [hx],hc⟩
  ·rw [if_neg hy]
   cases hs : sp k r with
   | nil => exact absurd hs (sp_pos k r)
   | cons z zs =>
    rcases List.mem_cons.1 h with rfl | h
    ·exact .inr ⟨c :: z,List.mem_cons_self ..,List.mem_cons_self ..⟩
    ·rcases sp_mem k r c h with e | ⟨x,hx,hc⟩
     ·exact .inl e
     ·rw [hs] at hx
      rcases List.mem_cons.1 hx with rfl | hx
      ·exact .inr ⟨_,List.mem_cons_self ..,List.mem_cons_of_mem _ hc⟩
      ·exact .inr ⟨x,List.mem_cons_of_mem _ hx,hc⟩
theorem host_chars {s : List UInt8} (h : hostB s = true) : ∀ c ∈ s,45 ≤ c.toNat ∧ c.toNat ≤ 122:=by
 intro c hc; unfold hostB at h
 rw [Bool.and_eq_true,List.all_eq_true] at h
 rcases sp_mem 46 s c hc with rfl | ⟨x,hx,hcx⟩
 ·decide
 ·have h1:=h.2 x hx
  unfold labB at h1
  rw [Bool.and_eq_true,List.all_eq_true] at h1
  have h2:=h1.2 c hcx; unfold hch aln dash at h2
  simp only [Bool.or_eq_true,Bool.and_eq_true,decide_eq_true_eq] at h2
  omega
theorem low_ne {c : UInt8} {k : UInt8} (hk : k.toNat < 65) : low c = k ↔ c = k:=by
 by_cases hu : 65 ≤ c.toNat ∧ c.toNat ≤ 90
 ·have h1:=low_up hu.1 hu.2
  constructor
  ·intro e; rw [e] at h1; omega
  ·intro e; rw [e] at hu; omega
 ·rw [low_no (by omega)]
theorem hch_low (c : UInt8) : hch (low c) = hch c:=by
 by_cases hu : 65 ≤ c.toNat ∧ c.toNat ≤ 90
 ·have h1:=low_up hu.1 hu.2
  unfold hch aln dash
  rw [h1,Bool.eq_iff_iff]
  simp only [Bool.or_eq_true,Bool.and_eq_true,decide_eq_true_eq]
  omega
 ·rw [low_no (by omega)]
theorem dash_low (c : UInt8) : dash (low c) = dash c:=by
 by_cases hu : 65 ≤ c.toNat ∧ c.toNat ≤ 90
 ·have h1:=low_up hu.1 hu.2
  unfold dash
  rw [h1,decide_eq_decide]
  omega
 ·rw [low_no (by omega)]
theorem lab_low (x : List UInt8) : labB (Syn.lower x) = labB x:=by
 unfold labB
 rw [lower_length]
 have h1 : (Syn.lower x).head?.any dash = x.head?.any dash:=by
  cases x with
  | nil => rfl
  | cons a r => exact dash_low a
 have h2 : (Syn.lower x).getLast?.any dash = x.getLast?.any dash:=by
  unfold Syn.lower
  rw [List.getLast?_map]
  cases x.getLast? with
  | none => rfl
  | some a => exact dash_low a
 have h3 : (Syn.lower x).all hch = x.all hch:=by
  unfold Syn.lower
  rw [List.all_map]
  congr 1
  funext c
  exact hch_low c
 rw [h1,h2,h3]
theorem sp_low : ∀ s : List UInt8,sp 46 (Syn.lower s) = (sp 46 s).map Syn.lower
 | [] => rfl
 | y :: r => by
  have ih:=sp_low r; show sp 46 (low y :: Syn.lower r) = _
  unfold sp
  by_cases hy : y = 46
  ·rw [if_pos hy,if_pos ((low_ne (by decide)).2 hy),ih]; rfl
  ·rw [if_neg hy,if_neg (fun e => hy ((low_ne (by decide)).1 e)),ih]
   cases sp 46 r with
   | nil => rfl
   | cons z zs => rfl
theorem host_low {x : List UInt8} (h : hostB x = true) : hostB (Syn.lower x) = true:=by
 unfold hostB at *
 rw [lower_length,sp_low,List.all_map]
 rw [Bool.and_eq_true] at *
 refine ⟨h.1,?_⟩
 rw [List.all_eq_true] at *
 intro y hy; show labB (Syn.lower y) = true
 rw [lab_low]; exact h.2 y hy
theorem drop_noblank : ∀ {x : List UInt8},(∀ c ∈ x,Syn.blank c = false) → x.dropWhile Syn.blank = x
 | [],_ => rfl
 | c :: x,h => by rw [List.dropWhile_cons,if_neg (by rw [h c (by simp)]; decide)]
theorem trim_noblank {x : List UInt8} (h : ∀ c ∈ x,Syn.blank c = false) : trim x = x:=by
 unfold trim trimL
 rw [drop_noblank h,drop_noblank (fun c hc => h c (by simpa using hc)),List.reverse_reverse]
theorem host_value {x : List UInt8} (h : hostB x = true) : vlE x = 0 ∧ vlV x = x:=by
 have hc:=host_chars h; have hl : x.length ≤ 100:=by
  unfold hostB at h
  rw [Bool.and_eq_true,decide_eq_true_eq] at h
  exact h.1
 have h1 : cln x = true:=by
  unfold cln
  rw [List.all_eq_true]
  intro c hcx; have:=hc c hcx
  unfold ctl ctlN
  simp
  omega
 have h2 : trim x = x:=trim_noblank (fun c hcx => by
  have:=hc c hcx
  unfold Syn.blank
  rw [Bool.or_eq_false_iff,beq_eq_false_iff_ne,beq_eq_false_iff_ne]
  constructor
  ·intro e; rw [e] at this; exact absurd this.1 (by decide)
  ·intro e; rw [e] at this; exact absurd this.1 (by decide))
 have hE : vlE x = 0:=by unfold vlE; rw [h1,if_pos rfl,h2,if_neg (by omega)]
 exact ⟨hE,by unfold vlV; rw [if_pos hE,h2]⟩
theorem hostN_ok : nmE hostN = 0 ∧ nmV hostN = hostN:=by decide
theorem wq_fields {l : List (List UInt8 × List UInt8)} {h : List UInt8} (hok : okCs l = true) (hx : hsX l = some h) :
  wqL l = (can l).map (rep hostN h) ∧ (∀ p ∈ wqL l,okR p) ∧ hsX (wqL l) = some h ∧ rqF (wqL l) = wqL l ∧ (lns (wqL l)).length = (lns l).length ∧ (wqL l).length = l.length:=by
 obtain ⟨x,hv,rfl⟩:=hsX_val hx
 have hb : hostB x = true:=by
  unfold hsX at hx
  rw [hv] at hx
  cases hh : hostB x with
  | true => rfl
  | false => simp [hh] at hx
 have hL : wqL l = (can l).map (rep hostN (Syn.lower x)):=by unfold wqL; rw [hx]; rfl
 have hv2:=host_value (host_low hb); have hO:=okR_can hok; have hF : ∀ p ∈ wqL l,okR p:=by
  intro p hp; rw [hL] at hp
  obtain ⟨q,hq,rfl⟩:=List.mem_map.1 hp
  unfold rep
  split
  ·exact ⟨hostN_ok.1,hostN_ok.2,hv2.1,hv2.2⟩
  ·exact hO q hq
 have hA : ∀ r : List (List UInt8 × List UInt8),allV (r.map (rep hostN (Syn.lower x))) hostN = (allV r hostN).map (fun _ => Syn.lower x):=by
  intro r; induction r with
  | nil => rfl
  | cons p r ih =>
   rw [List.map_cons,allV_cons,allV_cons,ih,low_host]
   by_cases hp : Syn.lower p.1 = hostN
   ·rw [if_pos hp,show rep hostN (Syn.lower x) p = (hostN,Syn.lower x) from if_pos hp,if_pos low_host]; rfl
   ·rw [if_neg hp,show rep hostN (Syn.lower x) p = p from if_neg hp,if_neg hp]
 have hX : hsX (wqL l) = some (Syn.lower x):=by
  rw [hL]
  have:=hA (can l)
  rw [allV_can hostN hok,hv] at this
  rw [hsX_good this (host_low hb),lower_lower]
 refine ⟨hL,hF,hX,?_,?_,?_⟩
 ·unfold rqF
  rw [hX,hL,List.map_map]
  refine List.map_congr_left fun p _ => ?_
  show rep hostN (Syn.lower x) (rep hostN (Syn.lower x) p) = rep hostN (Syn.lower x) p
  by_cases hp : Syn.lower p.1 = hostN
  ·rw [show rep hostN (Syn.lower x) p = (hostN,Syn.lower x) from if_pos hp]; exact if_pos low_host
  ·rw [show rep hostN (Syn.lower x) p = p from if_neg hp]; exact if_neg hp
 ·rw [hL,← lnsR_host hok hx,lnsR_repR]
 ·rw [hL,List.length_map]; exact List.length_map ..
theorem line_back {m t : List UInt8} (hm : mthB m = true) (ht : tgtB m t = true) : rlM (wqS m t) = m ∧ rlT (wqS m t) = t ∧ rlV (wqS m t) = verB ∧ wqS m t ≠ [] ∧ clr (wqS m t):=by
 have hmc : ∀ c ∈ m,65 ≤ c.toNat ∧ c.toNat ≤ 90:=by
  unfold mthB at hm
  rw [Bool.and_eq_true,List.all_eq_true] at hm
  intro c hc; have:=hm.1 c hc
  unfold upc at this
  simpa using this
 have htc : ∀ c ∈ t,33 ≤ c.toNat ∧ c.toNat ≤ 126:=by
  unfold tgtB at ht
  rw [Bool.and_eq_true,Bool.and_eq_true,List.all_eq_true] at ht
  intro c hc; have:=ht.1.1 c hc
  unfold vis at this
  simpa using this
 have e : wqS m t = m ++ 32 :: (t ++ 32 :: verB):=by unfold wqS verB; simp
 obtain ⟨a1,a2⟩:=take32 m (t ++ 32 :: verB) (fun c hc e => by have:=hmc c hc; rw [e] at this; exact absurd this.1 (by decide))
 obtain ⟨b1,b2⟩:=take32 t verB (fun c hc e => by have:=htc c hc; rw [e] at this; exact absurd this.1 (by decide))
 have eR : stR (wqS m t) = t ++ 32 :: verB:=by unfold stR; rw [e,a2]; rfl
 refine ⟨by unfold rlM stD; rw [e,a1],by unfold rlT stD; rw [eR,b1],by unfold rlV; rw [eR]; unfold stR; rw [b2]; rfl,by rw [e]; simp,fun c hc => ?_⟩
 rw [e,List.mem_append,List.mem_cons,List.mem_append,List.mem_cons] at hc
 rcases hc with hc | rfl | hc | rfl | hc
 ·have:=hmc c hc; omega
 ·decide
 ·have:=htc c hc; omega
 ·decide
 ·have : ∀ c ∈ verB,c.toNat ≠ 0 ∧ c.toNat ≠ 10 ∧ c.toNat ≠ 13:=by decide
  exact this c hc
theorem req_back {m t : List UInt8} {l : List (List UInt8 × List UInt8)} (rest : List UInt8) (h : wqE m t l = 0) :
  rqE (wqB m t l ++ rest) = 0 ∧ rqM (wqB m t l ++ rest) = m ∧ rqT (wqB m t l ++ rest) = t ∧ rqL (wqB m t l ++ rest) = wqL l ∧ endF (wqB m t l ++ rest) = ((wqB m t l).length : Int):=by
 have hB : wqB m t l = headB (wqS m t) (wqL l):=by unfold wqB; rw [if_pos h]
 have hw:=h; unfold wqE at hw
 have hlg : largeB (m.length + t.length + 10) l = false:=by
  cases hh : largeB (m.length + t.length + 10) l with
  | false => rfl
  | true => rw [if_pos hh] at hw; cases hw
 rw [if_neg (by rw [hlg]; decide)] at hw
 have hm : mthB m = true:=by
  cases hh : mthB m with
  | true => rfl
  | false => rw [if_pos hh] at hw; cases hw
 rw [if_neg (by rw [hm]; decide)] at hw
 have ht : tgtB m t = true:=by
  cases hh : tgtB m t with
  | true => rfl
  | false => rw [if_pos hh] at hw; cases hw
 rw [if_neg (by rw [ht]; decide)] at hw
 have hok : okCs l = true:=by
  cases hh : okCs l with
  | true => rfl
  | false => rw [if_pos hh] at hw; cases hw
 rw [if_neg (by rw [hok]; decide)] at hw
 obtain ⟨hv,hx⟩ : ∃ h,hsX l = some h:=by
  cases hh : hsX l with
  | none => rw [if_pos hh] at hw; cases hw
  | some h => exact ⟨h,rfl⟩
 obtain ⟨hL,hO,hX,hrq,hln,hle⟩:=wq_fields hok hx
 obtain ⟨s1,s2,s3,s4,s5⟩:=line_back hm ht
 have hlines : ∀ x ∈ wqS m t :: (wqL l).map ftx,x ≠ [] ∧ clr x:=by
  intro x hx; rcases List.mem_cons.1 hx with rfl | hx
  ·exact ⟨s4,s5⟩
  ·obtain ⟨p,hp,rfl⟩:=List.mem_map.1 hx
   exact ftx_line (hO p hp)
 unfold largeB at hlg
 rw [Bool.or_eq_false_iff,decide_eq_false_iff_not,decide_eq_false_iff_not] at hlg
 have hlen : (headB (wqS m t) (wqL l)).length = m.length + t.length + 10 + 2 + ((lns l).length + 2):=by
  have e1 : (wqS m t).length = m.length + t.length + 10:=by unfold wqS; simp only [List.length_append,List.length_cons,List.length_nil]; omega
  unfold headB
  rw [List.length_append,List.length_append,List.length_append,e1,hln]
  rfl
 obtain ⟨t1,t2,t3⟩:=lines_txt rest hlines (by rw [← head_len,hlen]; omega) (by rw [List.length_map,hle]; omega)
 obtain ⟨f1,f2⟩:=hds_ftx hO
 rw [hB,head_txt]
 refine ⟨?_,?_,?_,?_,?_⟩
 ·unfold rqE
  rw [if_pos t1,t2,rqX_cons,s1,s2,if_neg (by rw [hm]; decide),if_neg (by rw [ht]; decide),if_pos s3,if_pos f1,f2,if_neg (by rw [hX]; exact fun h => by cases h)]
 ·unfold rqM
  rw [t2]; exact s1
 ·unfold rqT
  rw [t2]; exact s2
 ·unfold rqL
  rw [t2]
  show rqF (((wqL l).map ftx).map hdV) = _
  rw [f2]; exact hrq
 ·rw [t3,head_len]
end Hd
end Go.Proofs.YtjffffpfejmoiaaGreatDoor
namespace Go.Proofs.YtjffffpfejmoiaaGreatDoor
open Go.RowKit Syn Fr Hd Ck
namespace Hd
theorem rqE_lnE {b : List UInt8} (h : lnE b ≠ 0) : rqE b = lnE b:=by unfold rqE; rw [if_neg h]
theorem rqE_ok {b : List UInt8} (h : rqE b = 0) : lnE b = 0:=by
 by_cases h1 : lnE b = 0
 ·exact h1
 ·rw [rqE_lnE h1] at h; exact h
theorem lnE_ok {b : List UInt8} (h : lnE b = 0) : ∃ n : Nat,endF b = (n : Int) ∧ 4 ≤ n ∧ n ≤ b.length ∧ n ≤ 8192 ∧ strB (b.take n) = true:=by
 unfold lnE at h
 split at h
 ·cases h
 ·split at h
  ·cases h
  ·next h1 h2 =>
   split at h
   ·cases h
   ·next h3 =>
    split at h
    ·cases h
    ·split at h
     ·cases h
     ·next h5 =>
      rcases endF_cases b with e | ⟨e,-⟩ | ⟨k,e,hk⟩
      ·omega
      ·exact absurd e h3
      ·refine ⟨k + 4,e,by omega,hk,by omega,?_⟩
       rw [e] at h5
       have : ((k + 4 : Nat) : Int).toNat = k + 4:=rfl
       rw [this] at h5
       cases hh : strB (b.take (k + 4)) with
       | true => rfl
       | false => exact absurd hh h5
theorem occ_take {b sub : List UInt8} {i n : Nat} (h : i + sub.length ≤ n) : Lib.occAt (b.take n) sub i = Lib.occAt b sub i:=by
 unfold Lib.occAt
 rw [Bool.eq_iff_iff,List.isPrefixOf_iff_prefix,List.isPrefixOf_iff_prefix,List.prefix_iff_eq_take,List.prefix_iff_eq_take,List.drop_take,List.take_take,show min sub.length (n - i) = sub.length by omega]
theorem endF_same {b d : List UInt8} {n : Nat} (h : endF b = (n : Int)) (h2 : 3 ≤ n) (hl : n ≤ d.length) (he : d.take n = b.take n) : endF d = (n : Int):=by
 unfold endF at h ⊢
 split at h
 ·omega
 ·next hp =>
  have hp2 : ¬ Lib.hasPrefix d [13,10] = true:=fun hh => hp (by
   unfold Lib.hasPrefix at hh ⊢
   rw [List.isPrefixOf_iff_prefix,List.prefix_iff_eq_take] at hh ⊢
   have e:=congrArg (List.take 2) he; rw [List.take_take,List.take_take,show min 2 n = 2 by omega] at e
   exact hh.trans e)
  rw [if_neg hp2]
  split at h
  ·omega
  ·next hi =>
   rcases Lib.index_spec b [13,10,13,10] with ⟨e,-⟩ | ⟨i,e,-,ho,hno⟩
   ·omega
   ·rw [e] at h
    have hin : i + 4 = n:=by omega
    have key : ∀ j,j + 4 ≤ n → Lib.occAt d [13,10,13,10] j = Lib.occAt b [13,10,13,10] j:=fun j hj => by
     have h1:=occ_take (b:=d) (sub:=[13,10,13,10]) (i:=j) (n:=n) hj; have h2:=occ_take (b:=b) (sub:=[13,10,13,10]) (i:=j) (n:=n) hj; rw [← h1,← h2,he]
    have hd : Lib.index d [13,10,13,10] = (i : Int):=Lib.index_first (by omega) (by rw [key i (by omega)]; exact ho) (fun j hj => by rw [key j (by omega)]; exact hno j hj)
    rw [hd,if_neg (by omega)]
    omega
end Hd
end Go.Proofs.YtjffffpfejmoiaaGreatDoor
namespace Go.Proofs.YtjffffpfejmoiaaGreatDoor
open Go.RowKit Syn Fr Hd Ck
namespace Hd
theorem drop_idem {α : Type} (p : α → Bool) : ∀ l : List α,(l.dropWhile p).dropWhile p = l.dropWhile p
 | [] => rfl
 | a :: l => by
  rw [List.dropWhile_cons]
  by_cases h : p a = true
  ·rw [if_pos h]; exact drop_idem p l
  ·rw [if_neg h,List.dropWhile_cons,if_neg h]
theorem drop_pre {α : Type} (p : α → Bool) {x y : List α} (hx : x.dropWhile p = x) (hp : y <+: x) : y.dropWhile p = y:=by
 cases y with
 | nil => rfl
 | cons a r =>
  obtain ⟨t,rfl⟩:=hp
  rw [List.cons_append,List.dropWhile_cons] at hx
  by_cases h : p a = true
  ·rw [if_pos h] at hx
   have h1:=congrArg List.length hx; have h2:=(List.dropWhile_suffix (p:=p) (l:=r ++ t)).length_le; rw [List.length_cons] at h1
   omega
  ·rw [List.dropWhile_cons,if_neg h]
theorem trim_trim (l : List UInt8) : trim (trim l) = trim l:=by
 have hL : (trimL l).dropWhile Syn.blank = trimL l:=drop_idem _ _
 have hp : trim l <+: trimL l:=by
  unfold trim
  have:=List.dropWhile_suffix (p:=Syn.blank) (l:=(trimL l).reverse)
  have h2:=List.reverse_prefix.2 this; rwa [List.reverse_reverse] at h2
 have h1 : trimL (trim l) = trim l:=drop_pre _ hL hp
 show ((trimL (trim l)).reverse.dropWhile Syn.blank).reverse = trim l
 rw [h1]
 unfold trim
 rw [List.reverse_reverse,drop_idem]
theorem trim_mem {l : List UInt8} : ∀ c ∈ trim l,c ∈ l:=by
 intro c hc; unfold trim trimL at hc
 rw [List.mem_reverse] at hc
 have h1:=(List.dropWhile_suffix (p:=Syn.blank) (l:=(l.dropWhile Syn.blank).reverse)).subset hc; rw [List.mem_reverse] at h1
 exact (List.dropWhile_suffix (p:=Syn.blank) (l:=l)).subset h1
theorem vl_trim {v : List UInt8} (h : vlE v = 0) : vlE (vlV v) = 0 ∧ vlV (vlV v) = vlV v:=by
 obtain ⟨h1,h2,h3⟩:=vlE_cln h
 rw [h3]
 have hc : cln (trim v) = true:=by
  unfold cln at *
  rw [List.all_eq_true] at *
  exact fun c hc => h1 c (trim_mem c hc)
 have hE : vlE (trim v) = 0:=by unfold vlE; rw [hc,if_pos rfl,trim_trim,if_neg (by omega)]
 exact ⟨hE,by unfold vlV; rw [if_pos hE,trim_trim]⟩
theorem hd_okR {l : List UInt8} (h : hdE l = 0) : okR (hdV l) ∧ (hdV l).1.length + (hdV l).2.length + 1 ≤ l.length:=by
 have hV : hdV l = (nmV (hdN l),vlV (hdR l)):=by unfold hdV; rw [if_pos h]
 rw [hV]
 unfold hdE at h
 split at h
 ·cases h
 ·split at h
  ·cases h
  ·next h1 =>
   split at h
   ·cases h
   ·split at h
    ·cases h
    ·next h3 =>
     split at h
     ·cases h
     ·next h4 =>
      have h3' : nmE (hdN l) = 0:=Decidable.of_not_not h3
      have h4' : vlE (hdR l) = 0:=Decidable.of_not_not h4
      obtain ⟨a1,a2⟩:=nmE_lower h3'
      obtain ⟨b1,b2⟩:=vl_trim h4'
      refine ⟨⟨a1,a2,b1,b2⟩,?_⟩
      have e1 : (nmV (hdN l)).length = (hdN l).length:=by rw [(nmE_tok h3').2.2,lower_length]
      have e2 : (vlV (hdR l)).length ≤ (hdR l).length:=by rw [(vlE_cln h4').2.2]; exact trim_le _
      have e3 : (hdN l).length + 1 + (hdR l).length = l.length:=by
       have hne : (l.dropWhile (· != 58)) ≠ []:=fun e => h1 (.inl (by rw [e]; rfl))
       have e4:=congrArg List.length (List.takeWhile_append_dropWhile (p:=(· != 58)) (l:=l)); rw [List.length_append] at e4
       unfold hdN hdR
       rw [List.length_drop]
       have : 1 ≤ (l.dropWhile (· != 58)).length:=by
        cases hd : l.dropWhile (· != 58) with
        | nil => exact absurd hd hne
        | cons a b => simp
       omega
      show (nmV (hdN l)).length + (vlV (hdR l)).length + 1 ≤ _
      omega
theorem hds_all : ∀ {L : List (List UInt8)},hdsE L = 0 → ∀ l ∈ L,hdE l = 0
 | [],_,l,h => by simp at h
 | x :: r,h,l,hl => by
  rw [hdsE] at h
  by_cases hx : hdE x = 0
  ·rw [if_pos hx] at h
   rcases List.mem_cons.1 hl with rfl | hl
   ·exact hx
   ·exact hds_all h l hl
  ·rw [if_neg hx] at h; exact absurd h hx
theorem splitK_sum : ∀ (k : Nat) (s : List UInt8),((Lib.splitK [13,10] 0 k s).map (fun l => l.length + 2)).sum = s.length + 2
 | 0,s => by rw [Lib.splitK]; simp
 | k + 1,s => by
  rw [Lib.splitK]
  split
  ·simp
  ·next h =>
   have h1:=Lib.index_spec s [13,10]; have h0 : 0 ≤ Lib.index s [13,10]:=by
    rcases h1 with ⟨e,-⟩ | ⟨i,e,-⟩
    ·exact absurd (by rw [e]; rfl) h
    ·omega
   have h2:=Lib.index_room s [13,10] h0; have h3 : ([13,10] : List UInt8).length = 2:=rfl
   rw [h3] at h2 ⊢
   rw [List.map_cons,List.sum_cons,splitK_sum k,List.length_take,List.length_drop]
   omega
theorem sp32 {l : List UInt8} (h : stR l ≠ []) : (stD l).length + 1 + (stR l).length = l.length:=by
 have e:=congrArg List.length (List.takeWhile_append_dropWhile (p:=(· != 32)) (l:=l)); rw [List.length_append] at e
 have h1 : 1 < (l.dropWhile (· != 32)).length:=by
  have:=List.length_pos_iff.2 h
  unfold stR at this
  rw [List.length_drop] at this
  omega
 unfold stD stR
 rw [List.length_drop]
 omega
theorem lns_hds : ∀ {L : List (List UInt8)},(∀ l ∈ L,hdE l = 0) → (lns (L.map hdV)).length ≤ (L.map (fun l => l.length + 2)).sum + L.length
 | [],_ => Nat.zero_le _
 | x :: r,h => by
  have h1:=(hd_okR (h x (List.mem_cons_self ..))).2; have h2:=lns_hds (L:=r) (fun l hl => h l (List.mem_cons_of_mem _ hl)); rw [List.map_cons,List.map_cons,List.sum_cons,List.length_cons]
  unfold lns at h2 ⊢
  rw [List.flatMap_cons,List.length_append]
  have : (ln (hdV x)).length = (hdV x).1.length + (hdV x).2.length + 4:=by unfold ln; simp; omega
  omega
theorem wqL_rqF {X : List (List UInt8 × List UInt8)} (h : can X = X) : wqL X = rqF X:=by unfold wqL rqF; rw [h]
theorem rq_read {s : List UInt8} (h : rqE s = 0) :
  ∃ n : Nat,endF s = (n : Int) ∧ 4 ≤ n ∧ n ≤ s.length ∧ n ≤ 8192 ∧ (wqE (rqM s) (rqT s) (rqL s) = 0 ∨ (wqE (rqM s) (rqT s) (rqL s) = 5 ∧ 8128 < n)) ∧ wqL (rqL s) = rqL s ∧ ((rqM s).length ≤ 16 ∧ (rqT s).length ≤ 2048 ∧ (rqL s).length ≤ 64 ∧ (lns (rqL s)).length ≤ 10000):=by
 have hl0:=rqE_ok h; obtain ⟨n,e,h4,hl,h8,hst⟩:=lnE_ok hl0
 have hX : rqX (lnL s) = 0:=by unfold rqE at h; rw [if_pos hl0] at h; exact h
 obtain ⟨l0,r,hL⟩:=spl_ne (s.take ((endF s).toNat - 4))
 have hL' : lnL s = l0 :: r:=hL
 have hfew:=lnE_few hl0; have hsum : ((lnL s).map (fun l => l.length + 2)).sum = n - 2:=by
  unfold lnL spl
  rw [splitK_sum,List.length_take,e]
  omega
 rw [hL'] at hX hsum hfew
 rw [rqX_cons] at hX
 have hm : mthB (rlM l0) = true:=by
  cases hh : mthB (rlM l0) with
  | true => rfl
  | false => rw [if_pos hh] at hX; cases hX
 rw [if_neg (by rw [hm]; decide)] at hX
 have ht : tgtB (rlM l0) (rlT l0) = true:=by
  cases hh : tgtB (rlM l0) (rlT l0) with
  | true => rfl
  | false => rw [if_pos hh] at hX; cases hX
 rw [if_neg (by rw [ht]; decide)] at hX
 have hv : rlV l0 = verB:=by
  by_cases hh : rlV l0 = verB
  ·exact hh
  ·rw [if_neg hh] at hX; cases hX
 rw [if_pos hv] at hX
 have hr : hdsE r = 0:=by
  by_cases hh : hdsE r = 0
  ·exact hh
  ·rw [if_neg hh] at hX; exact hX
 rw [if_pos hr] at hX
 obtain ⟨hv',hx⟩ : ∃ h,hsX (r.map hdV) = some h:=by
  cases hh : hsX (r.map hdV) with
  | none => rw [if_pos hh] at hX; cases hX
  | some h => exact ⟨h,rfl⟩
 have hall:=hds_all hr; have hO : ∀ p ∈ r.map hdV,okR p:=by
  intro p hp; obtain ⟨l,hl,rfl⟩:=List.mem_map.1 hp
  exact (hd_okR (hall l hl)).1
 have okOf : ∀ {F : List (List UInt8 × List UInt8)},(∀ p ∈ F,okR p) → okCs F = true ∧ can F = F:=by
  intro F hF; refine ⟨?_,?_⟩
  ·unfold okCs
   rw [List.all_eq_true]
   exact fun p hp => (okC_iff p.1 p.2).2 ⟨(hF p hp).1,(hF p hp).2.2⟩
  ·unfold can
   conv => rhs; rw [← List.map_id F]
   exact List.map_congr_left fun p hp => by rw [(hF p hp).2.1]; rfl
 obtain ⟨ok1,can1⟩:=okOf hO
 obtain ⟨w1,w2,w3,w4,w5,w6⟩:=wq_fields ok1 hx
 have hq : rqL s = wqL (r.map hdV):=by
  rw [w1,can1]
  unfold rqL rqF
  rw [hL']
  show (r.map hdV).map (rep hostN ((hsX (r.map hdV)).getD [])) = _
  rw [hx]; rfl
 obtain ⟨ok2,can2⟩:=okOf w2
 have hw : wqL (rqL s) = rqL s:=by
  rw [hq,wqL_rqF can2]
  exact w4
 have eM : rqM s = rlM l0:=by unfold rqM; rw [hL']; rfl
 have eT : rqT s = rlT l0:=by unfold rqT; rw [hL']; rfl
 have z1 : (rlM l0).length ≤ 16:=by
  unfold mthB at hm
  rw [Bool.and_eq_true,Bool.and_eq_true,decide_eq_true_eq,decide_eq_true_eq] at hm
  exact hm.2.2
 have z2 : (rlT l0).length ≤ 2048:=by
  unfold tgtB at ht
  rw [Bool.and_eq_true,Bool.and_eq_true,Bool.and_eq_true,decide_eq_true_eq,decide_eq_true_eq] at ht
  exact ht.1.2.2
 have z3 : (lns (r.map hdV)).length ≤ 10000:=by
  have h5:=lns_hds hall; rw [List.length_cons] at hfew
  rw [List.map_cons,List.sum_cons] at hsum
  omega
 refine ⟨n,e,h4,hl,h8,?_,hw,by rw [eM]; exact z1,by rw [eT]; exact z2,by rw [hq,w6,List.length_map]; rw [List.length_cons] at hfew; omega,by rw [hq,w5]; exact z3⟩
 rw [eM,eT,hq]
 unfold wqE
 by_cases hlg : largeB ((rlM l0).length + (rlT l0).length + 10) (wqL (r.map hdV)) = true
 ·right
  rw [if_pos hlg]
  refine ⟨rfl,?_⟩
  unfold largeB at hlg
  rw [Bool.or_eq_true,decide_eq_true_eq,decide_eq_true_eq,w5,w6,List.length_map] at hlg
  rw [List.length_cons] at hfew
  rw [List.map_cons,List.sum_cons] at hsum
  have h5:=lns_hds hall; have hvl : verB.length = 8:=rfl
  have e2 : (rlT l0).length + 1 + (rlV l0).length = (stR l0).length:=sp32 (l:=stR l0) (by show rlV l0 ≠ []; rw [hv]; decide)
  have e1 : (rlM l0).length + 1 + (stR l0).length = l0.length:=sp32 (l:=l0) (by intro hh; rw [hh] at e2; simp at e2)
  rw [hv,hvl] at e2
  rcases hlg with hlg | hlg <;> omega
 ·left
  rw [if_neg hlg,if_neg (by rw [hm]; decide),if_neg (by rw [ht]; decide),if_neg (by rw [ok2]; decide),if_neg (by rw [w3]; exact fun h => by cases h)]
end Hd
end Go.Proofs.YtjffffpfejmoiaaGreatDoor
