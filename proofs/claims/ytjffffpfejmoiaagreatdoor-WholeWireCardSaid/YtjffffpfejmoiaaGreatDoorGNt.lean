import Derived.Test.YtjffffpfejmoiaaGreatDoorGHo
import Derived.Test.YtjffffpfejmoiaaGreatDoorGLow
import Derived.Test.YtjffffpfejmoiaaGreatDoorGFr
namespace Go.Proofs.YtjffffpfejmoiaaGreatDoor
open Go.RowKit Syn Fr
def digc (x : Nat) : UInt8:=UInt8.ofNat (48 + x % 10)
theorem digc_nat (x : Nat) : (digc x).toNat = 48 + x % 10:=by
 unfold digc
 rw [UInt8.toNat_ofNat']
 have:=Nat.mod_lt x (show 10 > 0 by decide)
 omega
def dgp (n p : Nat) : Bytes:=if p ≤ n then [digc (n / p)] else []
def dg (n : Nat) : Bytes:=dgp n 10000 ++ dgp n 1000 ++ dgp n 100 ++ dgp n 10 ++ [digc n]
theorem dgp_len (n p : Nat) : (dgp n p).length ≤ 1:=by unfold dgp; split <;> simp
theorem one_byte (x : Nat) (w : World) :
  (convert 23 9 (Value.slice (some ⟨w.heap.size,0,none⟩) 1 1)).run Tryz.prog (w.alloc (.cells #[.int .u8 (48 + (x : Int) % 10)] 5)) = Result.ok (Value.string (str [digc x])) (w.alloc (.cells #[.int .u8 (48 + (x : Int) % 10)] 5)):=by
 have h:=run_byte w (digc x); rw [show ((digc x).toNat : Int) = 48 + (x : Int) % 10 by rw [digc_nat]; omega] at h
 exact h
end Go.Proofs.YtjffffpfejmoiaaGreatDoor
namespace Go.Proofs.YtjffffpfejmoiaaGreatDoor
open Go.RowKit Syn
def pre : Nat → List UInt8
 | 0 => []
 | 1 => [32]
 | 2 => [9]
 | _ => [32,9,32]
def sep : Nat → List UInt8
 | 0 => [44]
 | 1 => [32,44]
 | 2 => [44,44,32,44]
 | _ => [9,44]
def elem (t : List UInt8) : List UInt8:=if isTok t then t else quote t
theorem clean_append (a b : List UInt8) : cln (a ++ b) = (cln a && cln b):=by unfold cln; rw [List.all_append]
theorem clean_esc (c : UInt8) (h : ctl c = false) : cln (esc c) = true:=by
 unfold esc cln
 split
 ·simp [h]; decide
 ·simp [h]
theorem clean_escs : ∀ l : List UInt8,cln l = true → cln (escs l) = true
 | [],_ => rfl
 | c :: l,h => by
  have h' : ctl c = false ∧ cln l = true:=by
   unfold cln at h; rw [List.all_cons,Bool.and_eq_true] at h
   exact ⟨by simpa using h.1,h.2⟩
  have e : escs (c :: l) = esc c ++ escs l:=by simp [escs]
  rw [e,clean_append,clean_esc c h'.1,clean_escs l h'.2]; rfl
theorem clean_quote {l : List UInt8} (h : cln l = true) : cln (quote l) = true:=by
 unfold quote
 rw [clean_append]
 have : cln (34 :: escs l) = cln ([34] ++ escs l):=rfl
 rw [this,clean_append,clean_escs l h]; decide
theorem clean_elem {t : List UInt8} (h : cln t = true) : cln (elem t) = true:=by
 unfold elem; split
 ·exact h
 ·exact clean_quote h
theorem clean_pre : ∀ n,cln (pre n) = true
 | 0 => rfl
 | 1 => by decide
 | 2 => by decide
 | n + 3 => by show cln [32,9,32] = true; decide
theorem clean_sep : ∀ n,cln (sep n) = true
 | 0 => by decide
 | 1 => by decide
 | 2 => by decide
 | n + 3 => by show cln [9,44] = true; decide
def Inside (q : List UInt8) : Prop:=∀ (c r : List UInt8) (out : List (List UInt8)),partsGo 44 false c out (q ++ r) = partsGo 44 false (c ++ q) out r
theorem Inside.nil : Inside []:=fun c r out => by rw [List.append_nil]; rfl
theorem Inside.one {a : UInt8} (h1 : a ≠ 34) (h2 : a ≠ 44) : Inside [a]:=fun c r out => by
 show partsGo 44 false c out (a :: r) = _
 rw [partsGo_cons,if_neg (by simp),if_neg h1,if_neg (by simp [h2])]
theorem Inside.app {a b : List UInt8} (ha : Inside a) (hb : Inside b) : Inside (a ++ b):=fun c r out => by
 rw [List.append_assoc,ha,hb,List.append_assoc]
theorem Inside.all : ∀ l : List UInt8,(∀ a ∈ l,a ≠ 34 ∧ a ≠ 44) → Inside l
 | [],_ => Inside.nil
 | a :: l,h => Inside.app (a:=[a]) (Inside.one (h a (by simp)).1 (h a (by simp)).2) (Inside.all l fun x hx => h x (by simp [hx]))
theorem in_quotes : ∀ (l c r : List UInt8) (out : List (List UInt8)),partsGo 44 true c out (escs l ++ 34 :: r) = partsGo 44 false (c ++ (escs l ++ [34])) out r
 | [],c,r,out => by
  show partsGo 44 true c out (34 :: r) = _
  rw [partsGo_cons,if_neg (by decide),if_pos rfl]; rfl
 | a :: l,c,r,out => by
  have e : escs (a :: l) = esc a ++ escs l:=by simp [escs]
  rw [e]
  unfold esc
  split
  ·show partsGo 44 true c out (92 :: a :: (escs l ++ 34 :: r)) = _
   rw [partsGo_cons,if_pos (by decide)]
   show partsGo 44 true (c ++ [92,a]) out (escs l ++ 34 :: r) = _
   rw [in_quotes l]; simp
  ·next h =>
   show partsGo 44 true c out (a :: (escs l ++ 34 :: r)) = _
   have h1 : a ≠ 34:=fun e => h (.inl e)
   have h2 : a ≠ 92:=fun e => h (.inr e)
   rw [partsGo_cons,if_neg (by simp [h2]),if_neg h1,if_neg (by simp),in_quotes l]; simp
theorem Inside.quote (l : List UInt8) : Inside (quote l):=fun c r out => by
 have e : Syn.quote l ++ r = 34 :: (escs l ++ 34 :: r):=by unfold Syn.quote; simp
 rw [e,partsGo_cons,if_neg (by simp),if_pos rfl]
 show partsGo 44 true (c ++ [34]) out (escs l ++ 34 :: r) = _
 rw [in_quotes]; unfold Syn.quote; simp
theorem tc_not {a : UInt8} (h : tc a = true) : a ≠ 34 ∧ a ≠ 44 ∧ Syn.blank a = false:=by
 refine ⟨fun e => ?_,fun e => ?_,?_⟩
 ·subst e; exact absurd h (by decide)
 ·subst e; exact absurd h (by decide)
 ·unfold Syn.blank
  by_cases h1 : a = 32
  ·subst h1; exact absurd h (by decide)
  ·by_cases h2 : a = 9
   ·subst h2; exact absurd h (by decide)
   ·simp [h1,h2]
theorem Inside.elem (t : List UInt8) : Inside (elem t):=by
 unfold Proofs.YtjffffpfejmoiaaGreatDoor.elem; split
 ·next h =>
  refine Inside.all t fun a ha => ?_
  unfold isTok at h
  rw [Bool.and_eq_true] at h
  have:=tc_not (List.all_eq_true.1 h.1 a ha)
  exact ⟨this.1,this.2.1⟩
 ·exact Inside.quote t
theorem Inside.pre : ∀ n,Inside (pre n)
 | 0 => Inside.nil
 | 1 => Inside.one (by decide) (by decide)
 | 2 => Inside.one (by decide) (by decide)
 | n + 3 => Inside.all [32,9,32] (by decide)
structure Firm (q : List UInt8) : Prop where
 fst : ∃ a r,q = a :: r ∧ Syn.blank a = false
 lst : ∃ a r,q = r ++ [a] ∧ Syn.blank a = false
theorem Firm.elem (t : List UInt8) : Firm (elem t):=by
 unfold Proofs.YtjffffpfejmoiaaGreatDoor.elem; split
 ·next h =>
  unfold isTok at h
  rw [Bool.and_eq_true] at h
  have hall : ∀ a ∈ t,Syn.blank a = false:=fun a ha => (tc_not (List.all_eq_true.1 h.1 a ha)).2.2
  refine ⟨?_,?_⟩
  ·cases t with
   | nil => simp at h
   | cons a r => exact ⟨a,r,rfl,hall a (by simp)⟩
  ·have hne : t ≠ []:=by intro e; rw [e] at h; simp at h
   exact ⟨t.getLast hne,t.dropLast,(List.dropLast_concat_getLast hne).symm,hall _ (List.getLast_mem hne)⟩
 ·exact ⟨⟨34,escs t ++ [34],rfl,by decide⟩,⟨34,34 :: escs t,rfl,by decide⟩⟩
theorem drop_blanks : ∀ (p l : List UInt8),p.all Syn.blank = true → (p ++ l).dropWhile Syn.blank = l.dropWhile Syn.blank
 | [],_,_ => rfl
 | a :: p,l,h => by
  rw [List.all_cons,Bool.and_eq_true] at h
  show (a :: (p ++ l)).dropWhile Syn.blank = _
  rw [List.dropWhile_cons,if_pos h.1,drop_blanks p l h.2]
theorem trim_firm {p q r : List UInt8} (hp : p.all Syn.blank = true) (hr : r.all Syn.blank = true) (hq : Firm q) : trim (p ++ q ++ r) = q:=by
 obtain ⟨⟨a,x,hx,ha⟩,⟨b,y,hy,hb⟩⟩:=hq
 have h1 : trimL (p ++ q ++ r) = q ++ r:=by
  unfold trimL
  rw [List.append_assoc,drop_blanks p _ hp,hx]
  show (a :: (x ++ r)).dropWhile Syn.blank = _
  rw [List.dropWhile_cons,if_neg (by rw [ha]; decide)]; rfl
 unfold trim
 rw [h1,List.reverse_append,drop_blanks _ _ (by rw [List.all_reverse]; exact hr)]
 conv => lhs; rw [hy,List.reverse_append]
 show ((b :: y.reverse).dropWhile Syn.blank).reverse = q
 rw [List.dropWhile_cons,if_neg (by rw [hb]; decide),hy]; simp
theorem pre_blank : ∀ n,(pre n).all Syn.blank = true
 | 0 => rfl
 | 1 => by decide
 | 2 => by decide
 | n + 3 => by show List.all [32,9,32] Syn.blank = true; decide
theorem Firm.ne {q : List UInt8} (h : Firm q) : q.isEmpty = false:=by
 obtain ⟨⟨a,r,e,_⟩,_⟩:=h; rw [e]; rfl
theorem go_sep (c r : List UInt8) (out : List (List UInt8)) : partsGo 44 false c out (44 :: r) = partsGo 44 false [] (out ++ [trim c]) r:=by
 rw [partsGo_cons,if_neg (by simp),if_neg (by decide),if_pos (by decide)]
theorem go_blank {a : UInt8} (h1 : a ≠ 34) (h2 : a ≠ 44) (c r : List UInt8) (out : List (List UInt8)) : partsGo 44 false c out (a :: r) = partsGo 44 false (c ++ [a]) out r:=Inside.one h1 h2 c r out
theorem sep_step (n m : Nat) {q : List UInt8} (hi : Inside q) (hf : Firm q) (out : List (List UInt8)) :
  ∃ news,full news = [q] ∧ ∀ r,partsGo 44 false [] out (pre n ++ q ++ sep m ++ r) = partsGo 44 false [] (out ++ news) r:=by
 have h0 : ∀ r,partsGo 44 false [] out (pre n ++ q ++ r) = partsGo 44 false (pre n ++ q) out r:=fun r => (Inside.pre n).app hi [] r out
 have he : trim [] = []:=rfl
 have hb : trim [32] = []:=rfl
 have hone : full [q] = [q]:=by unfold full; simp [hf.ne]
 have ht0 : trim (pre n ++ q) = q:=by have:=trim_firm (r:=[]) (pre_blank n) rfl hf; rwa [List.append_nil] at this
 match m with
 | 0 =>
  refine ⟨[q],hone,fun r => ?_⟩
  rw [List.append_assoc (pre n ++ q),h0]
  show partsGo 44 false _ _ (44 :: r) = _
  rw [go_sep,ht0]
 | 1 =>
  refine ⟨[q],hone,fun r => ?_⟩
  rw [List.append_assoc (pre n ++ q),h0]
  show partsGo 44 false _ _ (32 :: 44 :: r) = _
  rw [go_blank (by decide) (by decide),go_sep,trim_firm (r:=[32]) (pre_blank n) (by decide) hf]
 | 2 =>
  refine ⟨[q,[],[]],by unfold full; simp [hf.ne],fun r => ?_⟩
  rw [List.append_assoc (pre n ++ q),h0]
  show partsGo 44 false _ _ (44 :: 44 :: 32 :: 44 :: r) = _
  rw [go_sep,go_sep,go_blank (by decide) (by decide),go_sep,ht0,he,show trim ([] ++ [32]) = [] from rfl]; simp
 | m + 3 =>
  refine ⟨[q],hone,fun r => ?_⟩
  rw [List.append_assoc (pre n ++ q),h0]
  show partsGo 44 false _ _ (9 :: 44 :: r) = _
  rw [go_blank (by decide) (by decide),go_sep,trim_firm (r:=[9]) (pre_blank n) (by decide) hf]
def Joined (s : List UInt8) (want : List (List UInt8)) : Prop:=cln s = true ∧ ∃ out,full out = want ∧ ∀ r,partsGo 44 false [] [] (s ++ r) = partsGo 44 false [] out r
theorem Joined.nil : Joined [] []:=⟨rfl,[],rfl,fun _ => rfl⟩
theorem Joined.step {s : List UInt8} {want : List (List UInt8)} (h : Joined s want) (n m : Nat) {t : List UInt8} (ht : cln t = true) : Joined (s ++ (pre n ++ elem t ++ sep m)) (want ++ [elem t]):=by
 obtain ⟨hc,out,hf,hg⟩:=h
 refine ⟨by rw [clean_append,hc,clean_append,clean_append,clean_pre,clean_elem ht,clean_sep]; rfl,?_⟩
 obtain ⟨news,hn,hs⟩:=sep_step n m (Inside.elem t) (Firm.elem t) out
 refine ⟨out ++ news,?_,fun r => ?_⟩
 ·unfold full at *; rw [List.filter_append,hf,hn]
 ·rw [List.append_assoc s,hg,hs]
theorem Joined.list {s : List UInt8} {want : List (List UInt8)} (h : Joined s want) : Syn.list s = some want:=by
 obtain ⟨hc,out,hf,hg⟩:=h
 have h1:=hg []; rw [List.append_nil,partsGo,if_neg (by decide)] at h1
 unfold Syn.list parts
 rw [if_pos hc,h1]
 show some (full (out ++ [trim []])) = some want
 rw [← hf]
 unfold full
 rw [List.filter_append]
 show some (_ ++ []) = _
 rw [List.append_nil]
end Go.Proofs.YtjffffpfejmoiaaGreatDoor
namespace Go.Proofs.YtjffffpfejmoiaaGreatDoor
open Go.RowKit Syn Fr
theorem dig_digc (x : Nat) : dig (digc x) = true:=by
 unfold dig; rw [digc_nat,Bool.and_eq_true,decide_eq_true_eq,decide_eq_true_eq]
 have:=Nat.mod_lt x (show 10 > 0 by decide)
 omega
theorem dgp_dig (n p : Nat) : (dgp n p).all dig = true:=by
 unfold dgp; split
 ·rw [List.all_cons,dig_digc]; rfl
 ·rfl
theorem dg_dig (n : Nat) : (dg n).all dig = true:=by
 unfold dg
 simp only [List.all_append,dgp_dig,Bool.true_and,List.all_cons,dig_digc,List.all_nil]
theorem dg_len (n : Nat) : (dg n).length ≤ 5 ∧ 0 < (dg n).length:=by
 unfold dg
 simp only [List.length_append,List.length_cons,List.length_nil]
 have:=dgp_len n 10000; have:=dgp_len n 1000; have:=dgp_len n 100; have:=dgp_len n 10
 omega
theorem val_step2 {n p : Nat} (m : Nat) (e : m = n / (p * 10)) : valGo m (dgp n p) = n / p:=by
 have hdd : n / p / 10 = n / (p * 10):=Nat.div_div_eq_div_mul n p 10
 unfold dgp
 split
 ·show 10 * m + ((digc (n / p)).toNat - 48) = n / p
  rw [digc_nat,e,← hdd]; omega
 ·next h =>
  have h0 : n / p = 0:=Nat.div_eq_of_lt (by omega)
  show m = n / p
  rw [e,← hdd,h0]
theorem dg_val {n : Nat} (hn : n < 100000) : valGo 0 (dg n) = n:=by
 unfold dg
 rw [valGo_append,valGo_append,valGo_append,valGo_append]
 rw [val_step2 (n:=n) (p:=10000) 0 (by rw [Nat.div_eq_of_lt (by omega)])]
 rw [val_step2 (n:=n) (p:=1000) _ rfl]
 rw [val_step2 (n:=n) (p:=100) _ rfl]
 rw [val_step2 (n:=n) (p:=10) _ rfl]
 show 10 * (n / 10) + ((digc n).toNat - 48) = n
 rw [digc_nat]; omega
theorem dg_number {n : Nat} (hn : n < 100000) : number (dg n) = (n,0):=by
 unfold number digits
 have h:=dg_len n; rw [dg_dig,isEmpty_pos h.2]
 show (if 15 < (dg n).length then (0,5) else (valGo 0 (dg n),0)) = ((n,0) : Nat × Int)
 rw [if_neg (by omega),dg_val hn]
theorem dig_not {a : UInt8} (h : dig a = true) : a ≠ 34 ∧ a ≠ 44 ∧ Syn.blank a = false ∧ ctl a = false:=by
 unfold dig at h
 rw [Bool.and_eq_true,decide_eq_true_eq,decide_eq_true_eq] at h
 refine ⟨fun e => ?_,fun e => ?_,?_,?_⟩
 ·rw [e] at h; exact absurd h.1 (by decide)
 ·rw [e] at h; exact absurd h.1 (by decide)
 ·unfold Syn.blank
  rw [Bool.or_eq_false_iff,beq_eq_false_iff_ne,beq_eq_false_iff_ne]
  exact ⟨fun e => by rw [e] at h; exact absurd h.1 (by decide),fun e => by rw [e] at h; exact absurd h.1 (by decide)⟩
 ·unfold ctl ctlN
  simp; omega
theorem dg_inside (n : Nat) : Inside (dg n):=Inside.all _ fun a ha => by
 have:=dig_not (List.all_eq_true.1 (dg_dig n) a ha)
 exact ⟨this.1,this.2.1⟩
theorem dg_firm (n : Nat) : Firm (dg n):=by
 have hall : ∀ a ∈ dg n,Syn.blank a = false:=fun a ha => (dig_not (List.all_eq_true.1 (dg_dig n) a ha)).2.2.1
 have hne : dg n ≠ []:=fun e => by have:=dg_len n; rw [e] at this; simp at this
 refine ⟨?_,(dg n).getLast hne,(dg n).dropLast,(List.dropLast_concat_getLast hne).symm,hall _ (List.getLast_mem hne)⟩
 cases h : dg n with
 | nil => exact absurd h hne
 | cons a r => exact ⟨a,r,rfl,hall a (by rw [h]; simp)⟩
theorem dg_clean (n : Nat) : cln (dg n) = true:=by
 unfold cln
 rw [List.all_eq_true]
 intro a ha; rw [(dig_not (List.all_eq_true.1 (dg_dig n) a ha)).2.2.2]; rfl
def Open (D v : Bytes) (m : Nat) : Prop:=cln v = true ∧ ∃ p out,p.all Syn.blank = true ∧ full out = List.replicate m D ∧ ∀ r,partsGo 44 false [] [] (v ++ r) = partsGo 44 false (p ++ D) out r
theorem Open.first (n : Nat) : Open (dg n) (dg n) 0:=⟨dg_clean n,[],[],rfl,rfl,fun r => dg_inside n [] r []⟩
theorem full_one {q : Bytes} (h : Firm q) (out : List Bytes) (m : Nat) (ho : full out = List.replicate m q) : full (out ++ [q]) = List.replicate (m + 1) q:=by
 unfold full at *
 rw [List.filter_append,ho,List.replicate_succ']
 congr 1
 simp [h.ne]
theorem trim_pre {p q : Bytes} (hp : p.all Syn.blank = true) (hq : Firm q) : trim (p ++ q) = q:=by
 have:=trim_firm (r:=[]) hp rfl hq
 rwa [List.append_nil] at this
theorem Open.list {n m : Nat} {v : Bytes} (h : Open (dg n) v m) : Syn.list v = some (List.replicate (m + 1) (dg n)):=by
 obtain ⟨hc,p,out,hp,ho,hg⟩:=h
 have h1:=hg []; rw [List.append_nil,partsGo,if_neg (by decide),trim_pre hp (dg_firm n)] at h1
 unfold Syn.list parts
 rw [if_pos hc,h1]
 exact congrArg some (full_one (dg_firm n) out m ho)
theorem elemsGo_append : ∀ (V : List Bytes) (acc : List Bytes) (v : Bytes),elemsGo acc (V ++ [v]) = match elemsGo acc V with | none => none | some l => (Syn.list v).map (l ++ ·)
 | [],acc,v => by
  show elemsGo acc [v] = _
  rw [elemsGo_cons]
  cases Syn.list v with
  | none => rfl
  | some l => rfl
 | x :: V,acc,v => by
  show elemsGo acc (x :: (V ++ [v])) = _
  rw [elemsGo_cons,elemsGo_cons]
  cases Syn.list x with
  | none => rfl
  | some l => exact elemsGo_append V (acc ++ l) v
def CL : Bytes:=[67,111,110,116,101,110,116,45,76,101,110,103,116,104]
structure Lens (D : Bytes) (L : List (Bytes × Bytes)) (k : Nat) : Prop where
 names : ∀ p ∈ L,(p.1 = cl ∨ p.1 = CL)
 vals : elemsGo [] (L.map (·.2)) = some (List.replicate k D)
theorem Lens.nil (D : Bytes) : Lens D [] 0:=⟨by simp,rfl⟩
theorem Lens.push {n k m : Nat} {L : List (Bytes × Bytes)} {v name : Bytes} (h : Lens (dg n) L k) (hv : Open (dg n) v m) (hn : name = cl ∨ name = CL) : Lens (dg n) (L ++ [(name,v)]) (k + (m + 1)):=by
 refine ⟨fun p hp => ?_,?_⟩
 ·rw [List.mem_append,List.mem_singleton] at hp
  rcases hp with hp | rfl
  ·exact h.names p hp
  ·exact hn
 ·rw [List.map_append]
  show elemsGo [] (L.map (·.2) ++ [v]) = _
  rw [elemsGo_append,h.vals,hv.list]
  show some (List.replicate k (dg n) ++ List.replicate (m + 1) (dg n)) = _
  rw [List.replicate_append_replicate]
end Go.Proofs.YtjffffpfejmoiaaGreatDoor
