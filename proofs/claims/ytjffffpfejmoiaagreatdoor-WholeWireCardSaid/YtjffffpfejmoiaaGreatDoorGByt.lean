import Derived.Test.YtjffffpfejmoiaaGreatDoorSpec
import Derived.Test.YtjffffpfejmoiaaGreatDoorGLow
import Derived.Deep.QuietTactic
import Derived.BigQuiet
import Derived.Maps.AppendAt
import Derived.ArgAppend
import Derived.Lib.AppendStr
import Derived.Deep.RegionLaw
import Derived.Deep.DrawnRows
import Derived.Lib.ConvBytes
import Derived.Deep.MidRow
namespace Go.Proofs.YtjffffpfejmoiaaGreatDoor
open Go.RowKit Syn
namespace Ck
structure St where
 place : Nat
 digits : Nat
 number : Nat
 line : Nat
 total : Nat
 left : Nat
 sect : Nat
 text : List UInt8
 fields : List (List UInt8 × List UInt8)
 bad : Nat
def zero : St:=⟨0,0,0,0,0,0,0,[],[],0⟩
def hexv (c : UInt8) : Option Nat :=
 if 48 ≤ c.toNat ∧ c.toNat ≤ 57 then some (c.toNat - 48)
 else if 97 ≤ c.toNat ∧ c.toNat ≤ 102 then some (c.toNat - 87)
 else if 65 ≤ c.toNat ∧ c.toNat ≤ 70 then some (c.toNat - 55)
 else none
theorem hexv_lt {c : UInt8} {n : Nat} (h : hexv c = some n) : n < 16:=by
 unfold hexv at h
 split at h
 ·cases h; omega
 ·split at h
  ·cases h; omega
  ·split at h
   ·cases h; omega
   ·cases h
def forbiddens : List (List UInt8) :=
 [[97,117,116,104,111,114,105,122,97,116,105,111,110],[99,97,99,104,101,45,99,111,110,116,114,111,108],[99,111,110,116,101,110,116,45,108,101,110,103,116,104],[104,111,115,116],[115,101,116,45,99,111,111,107,105,101],[116,114,97,105,108,101,114],[116,114,97,110,115,102,101,114,45,101,110,99,111,100,105,110,103]]
def forb (n : List UInt8) : Bool:=decide (n ∈ forbiddens)
def nmE (x : List UInt8) : Int:=if isTok x then (if 64 < x.length then 5 else 0) else 8
def nmV (x : List UInt8) : List UInt8:=if nmE x = 0 then Syn.lower x else []
def vlE (x : List UInt8) : Int:=if cln x then (if 2048 < (trim x).length then 5 else 0) else 2
def vlV (x : List UInt8) : List UInt8:=if vlE x = 0 then trim x else []
def fline (s : List UInt8) : Option (List UInt8 × List UInt8) :=
 match s.dropWhile (· != 58) with
 | [] => none
 | _ :: v => if nmE (s.takeWhile (· != 58)) = 0 ∧ vlE v = 0 ∧ forb (nmV (s.takeWhile (· != 58))) = false then some (nmV (s.takeWhile (· != 58)),vlV v) else none
def St.err (s : St) (e : Nat) : St:={ s with bad:=e }
def sized (s : St) (c : UInt8) : St :=
 if c.toNat = 13 ∧ 0 < s.digits then { s with place:=2 }
 else if s.line = 256 then s.err 33
 else if s.place = 1 then (if ctl c then s.err 33 else { s with line:=s.line + 1 })
 else if c.toNat = 59 ∧ 0 < s.digits then { s with place:=1,line:=s.line + 1 }
 else match hexv c with
  | none => s.err 33
  | some d =>
   if s.digits = 8 then s.err 33
   else if 65536 < s.total + (16 * s.number + d) then { s with digits:=s.digits + 1,number:=16 * s.number + d,bad:=5 }
   else { s with digits:=s.digits + 1,number:=16 * s.number + d,line:=s.line + 1 }
def ended (s : St) (c : UInt8) : St :=
 if s.sect = 8192 ∨ c.toNat = 0 ∨ (decide (c.toNat = 10) != decide (s.place = 7)) = true then s.err 34
 else if c.toNat = 13 then { s with place:=7,sect:=s.sect + 1 }
 else if c.toNat ≠ 10 then { s with text:=s.text ++ [c],sect:=s.sect + 1 }
 else if s.text = [] then { s with place:=8,sect:=s.sect + 1 }
 else match fline s.text with
  | none => s.err 34
  | some f => if s.fields.length = 64 then s.err 34 else { s with fields:=s.fields ++ [f],place:=6,text:=[],sect:=s.sect + 1 }
def step (s : St) (c : UInt8) : St :=
 if s.place ≤ 1 then sized s c
 else if s.place = 2 then (if c.toNat ≠ 10 then s.err 33 else if s.number = 0 then { s with place:=6,left:=s.number } else { s with place:=3,left:=s.number })
 else if s.place = 3 then (if s.left - 1 = 0 then { s with left:=s.left - 1,total:=s.total + 1,place:=4 } else { s with left:=s.left - 1,total:=s.total + 1 })
 else if s.place = 4 then (if c.toNat ≠ 13 then s.err 33 else { s with place:=5 })
 else if s.place = 5 then (if c.toNat ≠ 10 then s.err 33 else { s with place:=0,digits:=0,number:=0,line:=0 })
 else ended s c
def wr : St → List UInt8 → St × List UInt8 × Nat
 | s,[] => (s,[],0)
 | s,c :: r =>
  if s.bad ≠ 0 ∨ s.place = 8 then (s,[],0)
  else if (step s c).bad ≠ 0 then (step s c,[],0)
  else ((wr (step s c) r).1,(if s.place = 3 then c :: (wr (step s c) r).2.1 else (wr (step s c) r).2.1),(wr (step s c) r).2.2 + 1)
structure Ok (s : St) : Prop where
 bad : s.bad = 0
 place : s.place ≤ 8
 digits : s.digits ≤ 8
 line : s.line ≤ 256
 sect : s.sect ≤ 8192
 early : s.place ≤ 5 → s.sect = 0 ∧ s.text = [] ∧ s.fields = []
 text : s.text.length ≤ s.sect
 fields : s.fields.length ≤ 64
 size : s.place ≤ 2 → s.total + s.number ≤ 65536
 data : s.place = 3 → 1 ≤ s.left ∧ s.total + s.left ≤ 65536
 total : s.total ≤ 65536
 tail : 6 ≤ s.place → s.number = 0
theorem ok_zero : Ok zero:=⟨rfl,by decide,by decide,by decide,by decide,fun _ => ⟨rfl,rfl,rfl⟩,by decide,by decide,by decide,by decide,by decide,by decide⟩
theorem ok_sized {s : St} (h : Ok s) (hp : s.place ≤ 1) (c : UInt8) (hb : (sized s c).bad = 0) : Ok (sized s c):=by
 obtain ⟨h1,h2,h3,h4,h5,h6,h7,h8,h9,h10,h11,h12⟩:=h
 have he:=h6 (by omega); have hs:=h9 (by omega); unfold sized at hb ⊢
 split
 ·exact ⟨h1,by show 2 ≤ 8; omega,h3,h4,h5,fun _ => he,h7,h8,fun _ => hs,fun e => (by cases e),h11,fun e => by change 6 ≤ 2 at e; omega⟩
 ·rename_i n1
  rw [if_neg n1] at hb
  split
  ·rename_i n2; rw [if_pos n2] at hb; cases hb
  ·rename_i n2
   rw [if_neg n2] at hb
   split
   ·rename_i n3
    rw [if_pos n3] at hb
    split
    ·rename_i n4; rw [if_pos n4] at hb; cases hb
    ·exact ⟨h1,h2,h3,by show s.line + 1 ≤ 256; omega,h5,h6,h7,h8,h9,h10,h11,h12⟩
   ·rename_i n3
    rw [if_neg n3] at hb
    split
    ·exact ⟨h1,by show 1 ≤ 8; omega,h3,by show s.line + 1 ≤ 256; omega,h5,fun _ => he,h7,h8,fun _ => hs,fun e => (by cases e),h11,fun e => by change 6 ≤ 1 at e; omega⟩
    ·rename_i n4
     rw [if_neg n4] at hb
     cases hx : hexv c with
     | none => rw [hx] at hb; cases hb
     | some d =>
      rw [hx] at hb
      simp only at hb ⊢
      split
      ·rename_i n5; rw [if_pos n5] at hb; cases hb
      ·rename_i n5
       rw [if_neg n5] at hb
       split
       ·rename_i n6; rw [if_pos n6] at hb; cases hb
       ·rename_i n6
        exact ⟨h1,h2,by show s.digits + 1 ≤ 8; omega,by show s.line + 1 ≤ 256; omega,h5,h6,h7,h8,fun _ => by show s.total + (16 * s.number + d) ≤ 65536; omega,h10,h11,fun e => by change 6 ≤ s.place at e; omega⟩
theorem ok_ended {s : St} (h : Ok s) (hp : 6 ≤ s.place) (c : UInt8) (hb : (ended s c).bad = 0) : Ok (ended s c):=by
 obtain ⟨h1,h2,h3,h4,h5,h6,h7,h8,h9,h10,h11,h12⟩:=h
 have hn:=h12 hp; unfold ended at hb ⊢
 split
 ·rename_i n1; rw [if_pos n1] at hb; cases hb
 ·rename_i n1
  rw [if_neg n1] at hb
  have hs : s.sect + 1 ≤ 8192:=by omega
  split
  ·exact ⟨h1,by show 7 ≤ 8; omega,h3,h4,hs,fun e => by change 7 ≤ 5 at e; omega,by show s.text.length ≤ s.sect + 1; omega,h8,fun e => by change 7 ≤ 2 at e; omega,fun e => (by cases e),h11,fun _ => hn⟩
  ·rename_i n2
   rw [if_neg n2] at hb
   split
   ·exact ⟨h1,h2,h3,h4,hs,fun e => by change s.place ≤ 5 at e; omega,by show (s.text ++ [c]).length ≤ s.sect + 1; rw [List.length_append,List.length_singleton]; omega,h8,h9,h10,h11,h12⟩
   ·rename_i n3
    rw [if_neg n3] at hb
    split
    ·exact ⟨h1,by show 8 ≤ 8; omega,h3,h4,hs,fun e => by change 8 ≤ 5 at e; omega,by show s.text.length ≤ s.sect + 1; omega,h8,fun e => by change 8 ≤ 2 at e; omega,fun e => (by cases e),h11,fun _ => hn⟩
    ·rename_i n4
     rw [if_neg n4] at hb
     cases hx : fline s.text with
     | none => rw [hx] at hb; cases hb
     | some f =>
      rw [hx] at hb
      simp only at hb ⊢
      split
      ·rename_i n5; rw [if_pos n5] at hb; cases hb
      ·exact ⟨h1,by show 6 ≤ 8; omega,h3,h4,hs,fun e => by change 6 ≤ 5 at e; omega,by show 0 ≤ _; omega,by show (s.fields ++ [f]).length ≤ 64; rw [List.length_append,List.length_singleton]; omega,fun e => by change 6 ≤ 2 at e; omega,fun e => (by cases e),h11,fun _ => hn⟩
theorem ok_step {s : St} (h : Ok s) (c : UInt8) (hb : (step s c).bad = 0) : Ok (step s c):=by
 unfold step at hb ⊢
 split
 ·rename_i n1; rw [if_pos n1] at hb; exact ok_sized h n1 c hb
 ·rename_i n1
  rw [if_neg n1] at hb
  split
  ·rename_i n2
   rw [if_pos n2] at hb
   have he:=h.early (by omega); have hs:=h.size (by omega); split
   ·rename_i n3; rw [if_pos n3] at hb; cases hb
   ·split
    ·rename_i n4
     exact ⟨h.bad,by show 6 ≤ 8; omega,h.digits,h.line,h.sect,fun e => by change 6 ≤ 5 at e; omega,h.text,h.fields,fun e => by change 6 ≤ 2 at e; omega,fun e => (by cases e),h.total,fun _ => n4⟩
    ·rename_i n4
     exact ⟨h.bad,by show 3 ≤ 8; omega,h.digits,h.line,h.sect,fun _ => he,h.text,h.fields,fun e => by change 3 ≤ 2 at e; omega,fun _ => ⟨by show 1 ≤ s.number; omega,hs⟩,h.total,fun e => by change 6 ≤ 3 at e; omega⟩
  ·rename_i n2
   rw [if_neg n2] at hb
   split
   ·rename_i n3
    have he:=h.early (by omega); have hd:=h.data n3; split
    ·exact ⟨h.bad,by show 4 ≤ 8; omega,h.digits,h.line,h.sect,fun _ => he,h.text,h.fields,fun e => by change 4 ≤ 2 at e; omega,fun e => (by cases e),by show s.total + 1 ≤ 65536; omega,fun e => by change 6 ≤ 4 at e; omega⟩
    ·rename_i n4
     exact ⟨h.bad,h.place,h.digits,h.line,h.sect,fun _ => he,h.text,h.fields,fun e => by change s.place ≤ 2 at e; omega,fun _ => ⟨by show 1 ≤ s.left - 1; omega,by show s.total + 1 + (s.left - 1) ≤ 65536; omega⟩,by show s.total + 1 ≤ 65536; omega,fun e => by change 6 ≤ s.place at e; omega⟩
   ·rename_i n3
    rw [if_neg n3] at hb
    split
    ·rename_i n4
     rw [if_pos n4] at hb
     have he:=h.early (by omega); split
     ·rename_i n5; rw [if_pos n5] at hb; cases hb
     ·exact ⟨h.bad,by show 5 ≤ 8; omega,h.digits,h.line,h.sect,fun _ => he,h.text,h.fields,fun e => by change 5 ≤ 2 at e; omega,fun e => (by cases e),h.total,fun e => by change 6 ≤ 5 at e; omega⟩
    ·rename_i n4
     rw [if_neg n4] at hb
     split
     ·rename_i n5
      rw [if_pos n5] at hb
      have he:=h.early (by omega); split
      ·rename_i n6; rw [if_pos n6] at hb; cases hb
      ·exact ⟨h.bad,by show 0 ≤ 8; omega,by show 0 ≤ 8; omega,by show 0 ≤ 256; omega,h.sect,fun _ => he,h.text,h.fields,fun _ => by show s.total + 0 ≤ 65536; have:=h.total; omega,fun e => (by cases e),h.total,fun e => by change 6 ≤ 0 at e; omega⟩
     ·rename_i n5
      rw [if_neg n5] at hb
      exact ok_ended h (by omega) c hb
end Ck
end Go.Proofs.YtjffffpfejmoiaaGreatDoor
namespace Go.Proofs.YtjffffpfejmoiaaGreatDoor
open Go.RowKit Syn
namespace Ck
theorem wr_stop {s : St} (h : s.bad ≠ 0 ∨ s.place = 8) : ∀ l,wr s l = (s,[],0)
 | [] => rfl
 | c :: r => by unfold wr; rw [if_pos h]
theorem wr_bad {s : St} (h : ¬ (s.bad ≠ 0 ∨ s.place = 8)) {c : UInt8} (hb : (step s c).bad ≠ 0) (r : List UInt8) : wr s (c :: r) = (step s c,[],0):=by
 unfold wr; rw [if_neg h,if_pos hb]
theorem wr_go {s : St} (h : ¬ (s.bad ≠ 0 ∨ s.place = 8)) {c : UInt8} (hb : ¬ (step s c).bad ≠ 0) (r : List UInt8) :
  wr s (c :: r) = ((wr (step s c) r).1,(if s.place = 3 then c :: (wr (step s c) r).2.1 else (wr (step s c) r).2.1),(wr (step s c) r).2.2 + 1):=by
 conv => lhs; unfold wr
 rw [if_neg h,if_neg hb]
theorem wr_append : ∀ (a b : List UInt8) (s : St),wr s (a ++ b) = ((wr (wr s a).1 b).1,(wr s a).2.1 ++ (wr (wr s a).1 b).2.1,(wr s a).2.2 + (wr (wr s a).1 b).2.2)
 | [],b,s => by show wr s b = ((wr s b).1,[] ++ (wr s b).2.1,0 + (wr s b).2.2); rw [List.nil_append,Nat.zero_add]
 | c :: a,b,s => by
  by_cases h : s.bad ≠ 0 ∨ s.place = 8
  ·rw [wr_stop h,wr_stop h,wr_stop h]; rfl
  ·by_cases hb : (step s c).bad ≠ 0
   ·rw [List.cons_append,wr_bad h hb,wr_bad h hb,wr_stop (.inl hb)]; rfl
   ·rw [List.cons_append,wr_go h hb,wr_go h hb,wr_append a b (step s c)]
    simp only
    split
    ·simp only [List.cons_append]; congr 2; omega
    ·congr 2; omega
theorem wr_count : ∀ (l : List UInt8) (s : St),(wr s l).2.2 ≤ l.length
 | [],s => Nat.le_refl _
 | c :: r,s => by
  by_cases h : s.bad ≠ 0 ∨ s.place = 8
  ·rw [wr_stop h]; exact Nat.zero_le _
  ·by_cases hb : (step s c).bad ≠ 0
   ·rw [wr_bad h hb]; exact Nat.zero_le _
   ·rw [wr_go h hb]
    have:=wr_count r (step s c)
    show (wr (step s c) r).2.2 + 1 ≤ r.length + 1
    omega
theorem wr_data_count : ∀ (l : List UInt8) (s : St),(wr s l).2.1.length ≤ (wr s l).2.2
 | [],s => Nat.le_refl _
 | c :: r,s => by
  by_cases h : s.bad ≠ 0 ∨ s.place = 8
  ·rw [wr_stop h]; exact Nat.zero_le _
  ·by_cases hb : (step s c).bad ≠ 0
   ·rw [wr_bad h hb]; exact Nat.zero_le _
   ·rw [wr_go h hb]
    have:=wr_data_count r (step s c)
    show (if s.place = 3 then c :: (wr (step s c) r).2.1 else (wr (step s c) r).2.1).length ≤ (wr (step s c) r).2.2 + 1
    split
    ·rw [List.length_cons]; omega
    ·omega
def dat (s : St) (k : Nat) : St:=if k = s.left then { s with left:=0,total:=s.total + k,place:=4 } else { s with left:=s.left - k,total:=s.total + k }
theorem dat_step {s : St} (h3 : s.place = 3) (hl : 1 ≤ s.left) (c : UInt8) : step s c = dat s 1:=by
 unfold step dat
 rw [if_neg (by omega),if_neg (by omega),if_pos h3]
 by_cases h : s.left = 1
 ·rw [if_pos (by omega),if_pos h.symm,h]
 ·rw [if_neg (by omega),if_neg (fun e => h e.symm)]
theorem dat_dat {s : St} {k : Nat} (hk : k + 1 ≤ s.left) : 1 ≤ k → dat (dat s k) 1 = dat s (k + 1):=by
 intro h1; have e1 : dat s k = { s with left:=s.left - k,total:=s.total + k }:=by unfold dat; rw [if_neg (by omega)]
 rw [e1]
 unfold dat
 simp only
 by_cases h : k + 1 = s.left
 ·rw [if_pos (by omega),if_pos h]; rfl
 ·rw [if_neg (by omega),if_neg h]
  congr 1
theorem dat_bad (s : St) (k : Nat) : (dat s k).bad = s.bad:=by unfold dat; split <;> rfl
theorem dat_place {s : St} {k : Nat} (h3 : s.place = 3) (h : k ≠ s.left) : (dat s k).place = 3:=by unfold dat; rw [if_neg h]; exact h3
theorem dat_left {s : St} {k : Nat} (h : k ≠ s.left) : (dat s k).left = s.left - k:=by unfold dat; rw [if_neg h]
theorem wr_dat : ∀ (a : List UInt8) (s : St),s.place = 3 → s.bad = 0 → 1 ≤ a.length → a.length ≤ s.left → wr s a = (dat s a.length,a,a.length):=by
 intro a; suffices h : ∀ (n : Nat) (a : List UInt8) (s : St),a.length = n → s.place = 3 → s.bad = 0 → 1 ≤ a.length → a.length ≤ s.left → wr s a = (dat s a.length,a,a.length) from fun s => h a.length a s rfl
 intro n; induction n with
 | zero => intro a s h _ _ h1; omega
 | succ n ih =>
  intro a s hn h3 hb h1 hl; have hgo : ∀ (t : St) (c : UInt8),t.place = 3 → t.bad = 0 → 1 ≤ t.left → wr t [c] = (dat t 1,[c],1):=fun t c ht htb htl => by
   rw [wr_go (by omega) (by rw [dat_step ht htl,dat_bad]; omega),dat_step ht htl,if_pos ht]; rfl
  obtain ⟨b,c,rfl⟩ : ∃ b c,a = b ++ [c]:=⟨a.dropLast,a.getLast (by intro e; rw [e] at hn; cases hn),(List.dropLast_concat_getLast _).symm⟩
  rw [List.length_append,List.length_singleton] at hn hl ⊢
  by_cases h0 : b.length = 0
  ·rw [List.eq_nil_of_length_eq_zero h0]
   exact hgo s c h3 hb (by omega)
  ·rw [wr_append,ih b s (by omega) h3 hb (by omega) (by omega)]
   have hk : b.length ≠ s.left:=by omega
   simp only
   rw [hgo _ c (dat_place h3 hk) (by rw [dat_bad]; exact hb) (by rw [dat_left hk]; omega),dat_dat hl (by omega)]
theorem ok_dat {s : St} (h : Ok s) (h3 : s.place = 3) {k : Nat} (hk : k ≤ s.left) : Ok (dat s k):=by
 have hd:=h.data h3; have he:=h.early (by omega); unfold dat
 split
 ·exact ⟨h.bad,by show 4 ≤ 8; omega,h.digits,h.line,h.sect,fun _ => he,h.text,h.fields,fun e => (by change 4 ≤ 2 at e; omega),fun e => (by cases e),(by show s.total + k ≤ 65536; omega),fun e => (by change 6 ≤ 4 at e; omega)⟩
 ·exact ⟨h.bad,h.place,h.digits,h.line,h.sect,fun _ => he,h.text,h.fields,fun e => (by change s.place ≤ 2 at e; omega),fun _ => ⟨by show 1 ≤ s.left - k; omega,by show s.total + k + (s.left - k) ≤ 65536; omega⟩,(by show s.total + k ≤ 65536; omega),fun e => (by change 6 ≤ s.place at e; omega)⟩
end Ck
end Go.Proofs.YtjffffpfejmoiaaGreatDoor
namespace Go.Proofs.YtjffffpfejmoiaaGreatDoor
open Go.RowKit Syn Ck
set_option maxHeartbeats 1000000 in
theorem fcontrol_any (s : ByteArray) (w : World) (hs : s.size ≤ maxLen) :
  Calls Tryz.prog 70 #[.string s] w fun e w' => e = .returned (.bool (!cln (bs s))) ∧ w' = w:=by
 unfold maxLen at hs
 go_enter Tryz.func70,Tryz.ntmps70
 go_wp2; go_loop [3,6] (fun _ i => ∃ k : Nat,i = .int .i64 k ∧ k ≤ s.size ∧ Hid (((bs s).take k).all (fun c => !ctl c) = true)) (fun _ i => s.size - (intOf i).toNat)
 case atStart => exact ⟨0,rfl,by omega,rfl⟩
 case round =>
  obtain ⟨k,rfl,hk,ha⟩:=hrel
  by_cases hlt : k < s.size
  ·have key : s[k].toNat < 32 ∧ s[k].toNat ≠ 9 ∨ s[k].toNat = 9 ∨ s[k].toNat = 127 ∨ (32 ≤ s[k].toNat ∧ s[k].toNat ≠ 127):=by omega
   have no : ctlN s[k].toNat = false → Hid (((bs s).take (k + 1)).all (fun c => !ctl c) = true):=fun ht => all_step (p:=fun c => !ctl c) hlt ha.out (by show (!ctlN s[k].toNat) = true; rw [ht]; rfl)
   have yes : ctlN s[k].toNat = true → Hid ((!cln (bs s)) = true):=fun ht => by rw [cln_fail hlt ht]; rfl
   rcases key with h | h | h | h
   ·have e:=yes (by unfold ctlN; simp [h.1,h.2])
    have h0:=h.1; have h1:=beq_cast_false h.2; clear no yes; go_wp2; go_ret; exact ⟨congrArg (fun b => Ending.returned (.bool b)) e.out.symm,rfl⟩
   ·have e:=no (by rw [h]; rfl)
    have h1:=beq_cast_true h; have h2:=beq_cast_false (show s[k].toNat ≠ 127 by omega); clear no yes; go_wp2; go_round
    case rel => exact ⟨k + 1,by go_num,by omega,e⟩
    case measure => simp [intOf]; omega
   ·have e:=yes (by rw [h]; rfl)
    have h2:=beq_cast_true h; clear no yes; go_wp2; go_ret; exact ⟨congrArg (fun b => Ending.returned (.bool b)) e.out.symm,rfl⟩
   ·have e:=no (by unfold ctlN; simp; omega)
    have h0:=h.1; have h2:=beq_cast_false h.2; clear no yes; go_wp2; go_round
    case rel => exact ⟨k + 1,by go_num,by omega,e⟩
    case measure => simp [intOf]; omega
  ·obtain rfl : k = s.size:=by omega
   have hf:=Hj (all_done ha.out); go_wp2; go_ret; exact ⟨congrArg (fun b => Ending.returned (.bool b)) (show false = !cln (bs s) by rw [show cln (bs s) = true from hf.out]; rfl),rfl⟩
set_option maxHeartbeats 1000000 in
theorem fname_any (s : ByteArray) (w : World) (hs : s.size ≤ 1000000) :
  Calls Tryz.prog 32 #[.string s] w fun e w' => e = .returned (.tuple #[.string (str (nmV (bs s))),errV (nmE (bs s))]) ∧ Below w.heap.size w w':=by
 have hT:=Hj (fun w => token_any s w (by unfold maxLen; omega))
 have hL:=Hj (fun w => flower_any s w hs); have hn:=bs_length s; cases ht : isTok (bs s)
 ·have e:=Hj (show nmE (bs s) = 8 by unfold nmE; rw [ht]; rfl)
  have e2:=Hj (show nmV (bs s) = [] by unfold nmV; rw [e.out]; rfl)
  rw [ht] at hT
  rw [e.out,e2.out]
  clear hL ht; go_enter Tryz.func32,Tryz.ntmps32
  go_wp2_with fail
  refine (hT.out _).mono ?_
  rintro e w' ⟨rfl,rfl⟩
  go_wp2; go_ret2
  exact ⟨rfl,Below.refl _ _⟩
 ·rw [ht] at hT
  by_cases h64 : 64 < s.size
  ·have e:=Hj (show nmE (bs s) = 5 by unfold nmE; rw [ht,if_pos rfl,if_pos (by omega)])
   have e2:=Hj (show nmV (bs s) = [] by unfold nmV; rw [e.out]; rfl)
   rw [e.out,e2.out]
   clear hL ht; go_enter Tryz.func32,Tryz.ntmps32
   go_wp2_with fail
   refine (hT.out _).mono ?_
   rintro e w' ⟨rfl,rfl⟩
   go_wp2; go_ret2
   exact ⟨rfl,Below.refl _ _⟩
  ·have e:=Hj (show nmE (bs s) = 0 by unfold nmE; rw [ht,if_pos rfl,if_neg (by omega)])
   have e2:=Hj (show nmV (bs s) = Syn.lower (bs s) by unfold nmV; rw [e.out]; rfl)
   rw [e.out,e2.out]
   clear ht; go_enter Tryz.func32,Tryz.ntmps32
   go_wp2_with fail
   refine (hT.out _).mono ?_
   rintro e w' ⟨rfl,rfl⟩
   go_wp2_with fail
   refine (hL.out _).mono ?_
   rintro e w2 ⟨rfl,hb⟩
   replace hb:=Hj hb; go_wp2; go_ret2
   exact ⟨rfl,hb.out⟩
set_option maxHeartbeats 1000000 in
theorem fvalue_any (s : ByteArray) (w : World) (hs : s.size ≤ 1000000) :
  Calls Tryz.prog 46 #[.string s] w fun e w' => e = .returned (.tuple #[.string (str (vlV (bs s))),errV (vlE (bs s))]) ∧ Below w.heap.size w w':=by
 have hT:=Hj (fun w => fcontrol_any s w (by unfold maxLen; omega))
 have hL:=Hj (fun w => trim_any s w (by omega)); cases ht : cln (bs s)
 ·have e:=Hj (show vlE (bs s) = 2 by unfold vlE; rw [ht]; rfl)
  have e2:=Hj (show vlV (bs s) = [] by unfold vlV; rw [e.out]; rfl)
  rw [ht] at hT
  rw [e.out,e2.out]
  clear hL ht; go_enter Tryz.func46,Tryz.ntmps46
  go_wp2_with fail
  refine (hT.out _).mono ?_
  rintro e w' ⟨rfl,rfl⟩
  go_wp2; go_ret2
  exact ⟨rfl,Below.refl _ _⟩
 ·rw [ht] at hT
  have hz:=str_size (trim (bs s)); by_cases h64 : 2048 < (str (trim (bs s))).size
  ·have e:=Hj (show vlE (bs s) = 5 by unfold vlE; rw [ht,if_pos rfl,if_pos (by omega)])
   have e2:=Hj (show vlV (bs s) = [] by unfold vlV; rw [e.out]; rfl)
   rw [e.out,e2.out]
   clear ht hz; generalize str (trim (bs s)) = tt at *; go_enter Tryz.func46,Tryz.ntmps46
   go_wp2_with fail
   refine (hT.out _).mono ?_
   rintro e w' ⟨rfl,rfl⟩
   go_wp2_with fail
   refine (hL.out _).mono ?_
   rintro e w2 ⟨rfl,hb⟩
   replace hb:=Hj hb; go_wp2; go_ret2
   exact ⟨rfl,hb.out⟩
  ·have e:=Hj (show vlE (bs s) = 0 by unfold vlE; rw [ht,if_pos rfl,if_neg (by omega)])
   have e2:=Hj (show vlV (bs s) = trim (bs s) by unfold vlV; rw [e.out]; rfl)
   rw [e.out,e2.out]
   clear ht hz; generalize str (trim (bs s)) = tt at *; go_enter Tryz.func46,Tryz.ntmps46
   go_wp2_with fail
   refine (hT.out _).mono ?_
   rintro e w' ⟨rfl,rfl⟩
   go_wp2_with fail
   refine (hL.out _).mono ?_
   rintro e w2 ⟨rfl,hb⟩
   replace hb:=Hj hb; go_wp2; go_ret2
   exact ⟨rfl,hb.out⟩
end Go.Proofs.YtjffffpfejmoiaaGreatDoor
namespace Go.Proofs.YtjffffpfejmoiaaGreatDoor
open Go.RowKit Syn
theorem infoCF : (Tryz.prog.info? 26).map (fun i => (i.zero,i.size,i.bytes)) = some (some (.agg #[.string ⟨#[]⟩,.string ⟨#[]⟩]),2,32):=by kernel_rfl
end Go.Proofs.YtjffffpfejmoiaaGreatDoor
namespace Go.Proofs.YtjffffpfejmoiaaGreatDoor
open Go.RowKit
structure Kp (F : Nat → Prop) (w w' : World) : Prop where
 os : w'.os = w.os
 tape : w'.tape = w.tape
 output : w'.output = w.output
 size : w.heap.size ≤ w'.heap.size
 block : ∀ k,k < w.heap.size → ¬ F k → w'.heap[k]? = w.heap[k]?
section
variable {F G : Nat → Prop} {a w w' : World}
theorem Kp.refl (F : Nat → Prop) (w : World) : Kp F w w:=⟨rfl,rfl,rfl,Nat.le_refl _,fun _ _ _ => rfl⟩
theorem Kp.next (h : Kp F a w) (hG : ∀ k,k < a.heap.size → G k → F k) (h2 : Kp G w w') : Kp F a w' :=
 ⟨h2.os.trans h.os,h2.tape.trans h.tape,h2.output.trans h.output,Nat.le_trans h.size h2.size,
  fun k hk hF => (h2.block k (Nat.lt_of_lt_of_le hk h.size) (fun hg => hF (hG k hk hg))).trans (h.block k hk hF)⟩
theorem Kp.trans (h : Kp F a w) (h2 : Kp F w w') : Kp F a w':=h.next (fun _ _ h => h) h2
theorem Kp.mono (h : Kp G a w) (hG : ∀ k,k < a.heap.size → G k → F k) : Kp F a w:=(Kp.refl F a).next hG h
theorem Kp.drew (h : Kp F a w) : Kp F a w.drew:=⟨h.os,h.tape,h.output,h.size,h.block⟩
theorem Kp.alloc (h : Kp F a w) (o : Obj) : Kp F a (w.alloc o) :=
 ⟨h.os,h.tape,h.output,Nat.le_trans h.size (by simp),fun k hk hF => (Below.heap_alloc w o k (Nat.lt_of_lt_of_le hk h.size)).trans (h.block k hk hF)⟩
theorem Kp.set_ (h : Kp F a w) {g : Nat} (hg : g < a.heap.size → F g) (i : Nat) (u : Value) : Kp F a (w.setCell ⟨g,i,none⟩ u) :=
 ⟨h.os,h.tape,h.output,by rw [size_setCell]; exact h.size,fun k hk hF => (Below.heap_setCell w ⟨g,i,none⟩ u k (by rintro rfl; exact hF (hg hk))).trans (h.block k hk hF)⟩
theorem Kp.below (h : Kp F a w) (hb : Below w.heap.size w w') : Kp F a w' :=
 ⟨hb.os.trans h.os,hb.tape.trans h.tape,hb.output.trans h.output,Nat.le_trans h.size hb.size,
  fun k hk hF => (hb.block k (Nat.lt_of_lt_of_le hk h.size)).trans (h.block k hk hF)⟩
theorem Kp.grown (h : Kp F a w) {row : Option Nat} (hg : w.grownBy w' row) (hr : ∀ k,row = some k → k < a.heap.size → F k) : Kp F a w' :=
 ⟨hg.os.trans h.os,hg.tape.trans h.tape,hg.output.trans h.output,Nat.le_trans h.size hg.size,
  fun k hk hF => (hg.block k (Nat.lt_of_lt_of_le hk h.size) (fun e => hF (hr k e.symm hk))).trans (h.block k hk hF)⟩
theorem Kp.toBelow (h : Kp F a w) {B : Nat} (hB : B ≤ a.heap.size) (hF : ∀ k,F k → B ≤ k) : Below B a w :=
 ⟨h.os,h.tape,h.output,h.size,fun k hk => h.block k (by omega) (fun hf => by have:=hF k hf; omega)⟩
theorem Kp.cell (h : Kp F a w) {p : Addr} (hp : p.block < a.heap.size) (hF : ¬ F p.block) : w.cell? p = a.cell? p:=World.cell?_of_block (h.block p.block hp hF)
def Off (F : Nat → Prop) (v : Value) : Prop:=∀ k,v.ownBlock = some k → ¬ F k
theorem Blk.kp {g : Nat} {t : TypeId} {cs : Array Value} (h : Blk a g t cs) (hg : ¬ F g) (hk : Kp F a w) : Blk w g t cs:=(hk.block g h.lt hg).trans h
theorem Own.kp {B sz n : Nat} {e : TypeId} {v : Value} {xs : List Value} (h : Own a B e sz v n xs) (hF : Off F v) (hk : Kp F a w) : Own w B e sz v n xs:=by
 obtain ⟨hl,h⟩:=h
 refine ⟨hl,?_⟩
 rcases h with h | ⟨g,cap,cur,e1,h1,hg,h2⟩
 ·exact .inl h
 ·refine .inr ⟨g,cap,cur,e1,h1,?_,h2⟩
  have hlt : g < a.heap.size:=by
   rcases Nat.lt_or_ge g a.heap.size with h | h
   ·exact h
   ·rw [Array.getElem?_eq_none h] at hg; cases hg
  rw [hk.block g hlt (hF g (by rw [e1]; rfl))]; exact hg
theorem Rd.kp {sz n : Nat} {v : Value} {xs : List Value} (h : Rd a sz v n xs) (hF : Off F v) (hk : Kp F a w) : Rd w sz v n xs:=by
 obtain ⟨A,cap,e,hc,hl,h⟩:=h
 refine ⟨A,cap,e,hc,hl,fun hn => ?_⟩
 obtain ⟨b,off,e1,hlt,hx⟩:=h hn
 exact ⟨b,off,e1,Nat.lt_of_lt_of_le hlt hk.size,fun j u hu => by rw [hk.cell (p:=⟨b,off + j,none⟩) hlt (hF b (by rw [e,e1]; rfl))]; exact hx j u hu⟩
theorem Own.base {B B' sz n : Nat} {e : TypeId} {v : Value} {xs : List Value} (h : Own w B e sz v n xs) (hB : B' ≤ B) : Own w B' e sz v n xs:=by
 obtain ⟨hl,h⟩:=h
 refine ⟨hl,?_⟩
 rcases h with h | ⟨g,cap,cur,e1,h1,h2⟩
 ·exact .inl h
 ·exact .inr ⟨g,cap,cur,e1,Nat.le_trans hB h1,h2⟩
theorem Own.lt {B sz n : Nat} {e : TypeId} {v : Value} {xs : List Value} (h : Own w B e sz v n xs) {k : Nat} (hk : v.ownBlock = some k) : k < w.heap.size:=(World.ownsRow.lt h k hk).2
theorem Own.ne {B sz n g : Nat} {e t : TypeId} {v : Value} {xs : List Value} {cs : Array Value} (h : Own w B e sz v n xs) (hb : Blk w g t cs) (ht : e ≠ t) : v.ownBlock ≠ some g:=by
 intro hk; rcases h.2 with ⟨rfl,_⟩ | ⟨g',cap,cur,rfl,_,hg,_⟩
 ·cases hk
 ·simp only [Value.ownBlock,Option.some.injEq] at hk
  subst hk; unfold Blk at hb
  rw [hb] at hg
  injection hg with hg
  injection hg with _ h2 _
  exact ht h2.symm
theorem Own.apart {B B' sz sz' n n' : Nat} {e t : TypeId} {v v' : Value} {xs xs' : List Value} (h : Own w B e sz v n xs) (h' : Own w B' t sz' v' n' xs') (ht : e ≠ t) {k : Nat} (hk : v.ownBlock = some k) : v'.ownBlock ≠ some k:=by
 rcases h'.2 with ⟨rfl,_⟩ | ⟨g',cap,cur,rfl,_,hg,_⟩
 ·intro e; cases e
 ·intro e
  simp only [Value.ownBlock,Option.some.injEq] at e
  subst e; exact Own.ne (cs:=cur) h hg ht hk
end
theorem Blk.drew {w : World} {g : Nat} {t : TypeId} {cs : Array Value} (h : Blk w g t cs) : Blk w.drew g t cs:=h
end Go.Proofs.YtjffffpfejmoiaaGreatDoor
namespace Go.Proofs.YtjffffpfejmoiaaGreatDoor
open Go.RowKit Syn
section
variable {P : Program}
theorem step_pushB {ops : Array Oper} {rest : List Oper} {o : Oper} {a : Act} {Q : Exit → Act → World → Prop} {w : World} (t e : TypeId) (z : Value) (size bytes : Nat) (s x : Operand)
  (hgd : o.guard = none) (ho : o.op = .call { callee:=.builtin .append,args:=#[s,x],argTypes:=#[t,t] })
  (ht : P.underlying t = some (.slice e)) (hi : (P.info? e).map (fun i => (i.zero,i.size,i.bytes)) = some (some z,size,bytes)) (hzs : z.cells.size = size) (hsz : 0 < size) (hby : bytes ≤ 1000)
  {B n m c : Nat} {v : Value} {xs news : List Value} {ad : Addr} (hs : a.eval s = v) (hown : Own w B e size v n xs) (hx : a.eval x = .slice (some ad) m c) (hl : news.length = m * size)
  (hnews : ∀ j u,news[j]? = some u → w.cell? (ad.add j) = some u) (h1 : ∀ u ∈ news,u.oneCell' = true) (hn : n + m ≤ 10000000000) (hB : B ≤ w.heap.size)
  (h : ∀ v' w',Own w' B e size v' (n + m) (xs ++ news) → w.grownBy w' v.ownBlock → (v'.ownBlock = v.ownBlock ∨ v'.ownBlock = some w.heap.size) → wpList P ops Q rest (a.put o.dst v') w') : wpList P ops Q (o :: rest) a w:=by
 cases hP : P.info? e with
 | none => rw [hP] at hi; cases hi
 | some i =>
  rw [hP] at hi
  simp only [Option.map_some,Option.some.injEq,Prod.mk.injEq] at hi
  obtain ⟨hz,hsize,hbytes⟩:=hi
  have hbb : (n + m) * bytes ≤ 140737488355328:=Nat.le_trans (Nat.mul_le_mul hn hby) (by decide)
  refine wpList_append_own_at w hgd s x t ho B e i z size bytes ht hP hz hsize hbytes hzs hsz v n xs hs hown ad m c news hx hl hnews h1 (by unfold maxLen; omega) hbb hB ?_
  intro v' w' hown' hg _ hat; exact h v' w' hown' hg hat
end
theorem u8s_one (l : List UInt8) : ∀ u ∈ u8s l,u.oneCell' = true:=by
 intro u hu; unfold u8s at hu
 rw [List.mem_map] at hu
 obtain ⟨x,-,rfl⟩:=hu
 rfl
theorem u8s_app (a b : List UInt8) : u8s (a ++ b) = u8s a ++ u8s b:=by simp [u8s]
theorem u8s_at {l : List UInt8} {k : Nat} (h : k < l.length) : (u8s l)[k]? = some (.int .u8 (l[k].toNat : Int)):=by simp [u8s,h]
section
variable {P : Program}
theorem run_append_nilx (w : World) (t ty e : TypeId) (i : TypeInfo) (ht : P.underlying t = some (.slice e)) (hi : P.info? e = some i) (A : Option Addr) (n cap c : Nat) (hn : n ≤ cap) :
  (Builtin.append_ #[t,t] ty #[.slice A n cap,.slice none 0 c]).run P w = .ok (.slice A n cap) w:=by
 cases A <;> simp [Builtin.append_,run_underlying ht,sizeOf,typeInfo,hi,Builtin.lenOf,Builtin.firstCells,hn,storeCells]
theorem step_pushR {ops : Array Oper} {rest : List Oper} {o : Oper} {a : Act} {Q : Exit → Act → World → Prop} {w : World} (t e : TypeId) (z : Value) (size bytes : Nat) (s x : Operand)
  (hgd : o.guard = none) (ho : o.op = .call { callee:=.builtin .append,args:=#[s,x],argTypes:=#[t,t] })
  (ht : P.underlying t = some (.slice e)) (hi : (P.info? e).map (fun i => (i.zero,i.size,i.bytes)) = some (some z,size,bytes)) (hzs : z.cells.size = size) (hsz : 0 < size) (hby : bytes ≤ 1000)
  {B n m c : Nat} {v : Value} {xs news : List Value} {A : Option Addr} (hs : a.eval s = v) (hown : Own w B e size v n xs) (hx : a.eval x = .slice A m c) (hR : Rd w size (.slice A m c) m news)
  (h1 : ∀ u ∈ news,u.oneCell' = true) (hn : n + m ≤ 10000000000) (hB : B ≤ w.heap.size)
  (h : ∀ v' w',Own w' B e size v' (n + m) (xs ++ news) → w.grownBy w' v.ownBlock → (v'.ownBlock = v.ownBlock ∨ v'.ownBlock = some w.heap.size) → wpList P ops Q rest (a.put o.dst v') w') : wpList P ops Q (o :: rest) a w:=by
 obtain ⟨A',c',e',hc,hl,hr⟩:=hR
 cases e'; cases A with
 | some ad =>
  refine step_pushB t e z size bytes s x hgd ho ht hi hzs hsz hby hs hown hx hl (fun j u hu => ?_) h1 hn hB h
  have hm : 0 < m:=by
   rcases Nat.eq_zero_or_pos m with h0 | h0
   ·subst h0
    rw [Nat.zero_mul] at hl
    rw [List.eq_nil_of_length_eq_zero hl] at hu; cases hu
   ·exact h0
  obtain ⟨b,o',e1,hlt,hx'⟩:=hr hm
  cases e1
  have hadd : (⟨b,o',none⟩ : Addr).add j = ⟨b,o' + j,none⟩:=by unfold Addr.add; split <;> simp_all
  rw [hadd]; exact hx' j u hu
 | none =>
  have hm : m = 0:=by
   rcases Nat.eq_zero_or_pos m with h0 | h0
   ·exact h0
   ·obtain ⟨b,o',e1,-⟩:=hr h0; cases e1
  subst hm; rw [Nat.zero_mul] at hl
  have hnil:=List.eq_nil_of_length_eq_zero hl; subst hnil; have hk:=h v w (by rw [Nat.add_zero,List.append_nil]; exact hown) ⟨rfl,rfl,rfl,Nat.le_refl _,fun _ _ _ => rfl⟩ (.inl rfl)
  obtain ⟨Av,cv,rfl,hcv,-,-⟩:=Rd.own hown
  cases hP : P.info? e with
  | none => rw [hP] at hi; cases hi
  | some i =>
   refine wpList_plain hgd fun K hK => ?_
   have hrn:=run_append_nilx (P:=P) w t o.type e i ht hP Av n cv c hcv; unfold Oper.wp execOp
   simp only [ho,resolve,invoke,builtin,Sem.run_bind,Sem.run_pure,Result.andThen_ok,List.map_toArray,List.map_cons,List.map_nil,hs,hx,hrn]
   exact hK _ _ hk
end
theorem run_push8 (w : World) (ty : TypeId) {B c : Nat} {v : Value} {L M : List UInt8} {A : Option Addr} (hown : Own w B 5 1 v L.length (u8s L)) (hR : Rd w 1 (.slice A M.length c) M.length (u8s M))
  (hn : L.length + M.length ≤ 10000000000) (hB : B ≤ w.heap.size) :
  ∃ v' w',(Builtin.append_ #[23,23] ty #[v,.slice A M.length c]).run Tryz.prog w = .ok v' w' ∧ Own w' B 5 1 v' (L ++ M).length (u8s (L ++ M)) ∧ w.grownBy w' v.ownBlock ∧ (v'.ownBlock = v.ownBlock ∨ v'.ownBlock = some w.heap.size):=by
 have hi:=infoU8; cases hP : Tryz.prog.info? 5 with
 | none => rw [hP] at hi; cases hi
 | some i =>
  rw [hP] at hi
  simp only [Option.map_some,Option.some.injEq,Prod.mk.injEq] at hi
  obtain ⟨hz,hsize,hbytes⟩:=hi
  obtain ⟨A',c',e',hc,hl,hr⟩:=hR
  cases e'; cases A with
  | some ad =>
   have hcel : ∀ j u,(u8s M)[j]? = some u → w.cell? (ad.add j) = some u:=fun j u hu => by
    have hm : 0 < M.length:=by
     rcases Nat.eq_zero_or_pos M.length with h0 | h0
     ·rw [List.eq_nil_of_length_eq_zero h0] at hu; cases hu
     ·exact h0
    obtain ⟨b,o',e1,hlt,hx'⟩:=hr hm
    cases e1
    have hadd : (⟨b,o',none⟩ : Addr).add j = ⟨b,o' + j,none⟩:=by unfold Addr.add; split <;> simp_all
    rw [hadd]; exact hx' j u hu
   obtain ⟨v',w',hr,h2,h3,h4,h5⟩:=run_append_own_at (P:=Tryz.prog) w B 23 ty 5 i (.int .u8 0) 1 1 Tryz.underlying23 hP hz hsize hbytes rfl (by decide) v L.length (u8s L) hown ad M.length c (u8s M) (by rw [u8s_length,Nat.mul_one]) hcel (u8s_one M) (by unfold maxLen; omega) (by omega) hB
   refine ⟨v',w',hr,?_,h3,h5⟩
   rw [List.length_append,u8s_app]
   exact h2
  | none =>
   have hm : M.length = 0:=by
    rcases Nat.eq_zero_or_pos M.length with h0 | h0
    ·exact h0
    ·obtain ⟨b,o',e1,-⟩:=hr h0; cases e1
   have hnil:=List.eq_nil_of_length_eq_zero hm; subst hnil; obtain ⟨Av,cv,rfl,hcv,-,-⟩:=Rd.own hown
   refine ⟨_,w,run_append_nilx w 23 ty 5 i Tryz.underlying23 hP Av L.length cv c hcv,?_,⟨rfl,rfl,rfl,Nat.le_refl _,fun _ _ _ => rfl⟩,.inl rfl⟩
   rw [List.append_nil]
   exact hown
theorem Rd.part {w : World} {b o n cap : Nat} {l : List UInt8} (h : Rd w 1 (.slice (some ⟨b,o,none⟩) n cap) n (u8s l)) (i m cap' : Nat) (hm : i + m ≤ n) (hc : m ≤ cap') :
  ((l.drop i).take m).length = m ∧ Rd w 1 (.slice (some ⟨b,o + i,none⟩) m cap') m (u8s ((l.drop i).take m)):=by
 obtain ⟨A',c',e',hcp,hl',hr⟩:=h
 cases e'; rw [u8s_length,Nat.mul_one] at hl'
 have hlen : ((l.drop i).take m).length = m:=by rw [List.length_take,List.length_drop]; omega
 refine ⟨hlen,_,_,rfl,hc,by rw [u8s_length,hlen,Nat.mul_one],fun hm0 => ?_⟩
 obtain ⟨b1,o1,e1,hlt,hx⟩:=hr (by omega)
 cases e1
 refine ⟨b,o + i,rfl,hlt,fun j u hu => ?_⟩
 have hj : j < m:=by
  rcases Nat.lt_or_ge j m with h1 | h1
  ·exact h1
  ·rw [List.getElem?_eq_none (by rw [u8s_length,hlen]; omega)] at hu; cases hu
 rw [Nat.add_assoc]
 refine hx (i + j) u ?_
 rw [← hu]
 unfold u8s
 rw [List.getElem?_map,List.getElem?_map,List.getElem?_take,if_pos hj,List.getElem?_drop]
theorem Rd.one8 {w : World} {g : Nat} {c : UInt8} {t : TypeId} (h : Blk w g t #[.int .u8 (c.toNat : Int)]) : Rd w 1 (.slice (some ⟨g,0,none⟩) 1 1) 1 (u8s [c]) :=
 ⟨_,_,rfl,Nat.le_refl _,rfl,fun _ => ⟨g,0,rfl,h.lt,fun j u hu => by rw [Nat.zero_add,h.cell j]; simpa [u8s] using hu⟩⟩
theorem Blk.grown8 {w w' : World} {g : Nat} {t : TypeId} {cs : Array Value} {row : Option Nat} (h : Blk w g t cs) (hg : w.grownBy w' row) (hne : row ≠ some g) : Blk w' g t cs:=(hg.block g h.lt (Ne.symm hne)).trans h
theorem step_push8W {ops : Array Oper} {rest : List Oper} {o : Oper} {a : Act} {Q : Exit → Act → World → Prop} {w : World} (s x : Operand)
  (hw : Region.wanted o (yielded ops a.tmps) = true) (ho : o.op = .call { callee:=.builtin .append,args:=#[s,x],argTypes:=#[23,23] })
  {B c : Nat} {v : Value} {L M : List UInt8} {A : Option Addr} (hs : a.eval s = v) (hown : Own w B 5 1 v L.length (u8s L)) (hx : a.eval x = .slice A M.length c) (hR : Rd w 1 (.slice A M.length c) M.length (u8s M)) (hn : L.length + M.length ≤ 10000000000) (hB : B ≤ w.heap.size)
  (h : ∀ v' w',Own w' B 5 1 v' (L ++ M).length (u8s (L ++ M)) → w.grownBy w' v.ownBlock → (v'.ownBlock = v.ownBlock ∨ v'.ownBlock = some w.heap.size) → wpList Tryz.prog ops Q rest (a.put o.dst v') w') : wpList Tryz.prog ops Q (o :: rest) a w:=by
 refine wpList_step fun K hK => ?_
 rw [if_pos hw]
 obtain ⟨v',w',hr,h2,h3,h4⟩:=run_push8 w o.type hown hR hn hB
 unfold Oper.wp execOp
 simp only [ho,resolve,invoke,builtin,Sem.run_bind,Sem.run_pure,Result.andThen_ok,List.map_toArray,List.map_cons,List.map_nil,hs,hx,hr]
 exact hK _ _ (h v' w' h2 h3 h4)
end Go.Proofs.YtjffffpfejmoiaaGreatDoor
namespace Go.Proofs.YtjffffpfejmoiaaGreatDoor
open Go.RowKit Syn
theorem run_rd_str {w : World} {A : Option Addr} {c : Nat} {l : List UInt8} (h : Rd w 1 (.slice A l.length c) l.length (u8s l)) :
  (convert 23 9 (.slice A l.length c)).run Tryz.prog w = Result.ok (Value.string (str l)) w:=by
 obtain ⟨A',c',e',hc,hl,hr⟩:=h
 cases e'; cases A with
 | none =>
  have h0 : l.length = 0:=by
   rcases Nat.eq_zero_or_pos l.length with h0 | h0
   ·exact h0
   ·obtain ⟨b,o,e,-⟩:=hr h0; cases e
  have:=List.eq_nil_of_length_eq_zero h0
  subst this; exact run_convert_bytes_nil w 23 5 Tryz.underlying23 Tryz.underlying5 0 c 9 Tryz.underlying9
 | some a =>
  refine run_convert_bytes_back w 23 9 5 a c l Tryz.underlying23 Tryz.underlying5 Tryz.underlying9 (fun j hj => ?_)
  obtain ⟨b,o,e,-,hx⟩:=hr (by omega)
  cases e; have hadd : (⟨b,o,none⟩ : Addr).add j = ⟨b,o + j,none⟩:=by unfold Addr.add; split <;> simp_all
  rw [hadd]
  exact hx j _ (u8s_at hj)
set_option maxHeartbeats 1000000 in
theorem bytes_rd {v1 v2 : Value} {l1 l2 : List UInt8} (w : World) (h1 : Rd w 1 v1 l1.length (u8s l1)) (h2 : Rd w 1 v2 l2.length (u8s l2)) :
  Calls Tryz.prog 15 #[v1,v2] w fun e w' => e = .returned (.bool (decide (l1 = l2))) ∧ w' = w:=by
 obtain ⟨A1,c1,rfl,-⟩:=id h1; obtain ⟨A2,c2,rfl,-⟩:=id h2; have r1:=run_rd_str h1; have r2:=run_rd_str h2; clear h1 h2; by_cases h : l1 = l2
 ·subst h
  have q:=str_eq (a:=l1) (b:=l1) rfl; rw [decide_eq_true rfl]
  generalize str l1 = s1 at *; go_enter Tryz.func15,Tryz.ntmps15
  go_wp2; go_ret; exact ⟨rfl,rfl⟩
 ·have q:=str_ne h
  rw [decide_eq_false h]
  generalize str l1 = s1 at *; generalize str l2 = s2 at *; replace h:=Hj h; go_enter Tryz.func15,Tryz.ntmps15
  go_wp2; go_ret; exact ⟨rfl,rfl⟩
namespace Ck
def OwnM (w : World) (B : Nat) (v : Value) (l : List UInt8) : Prop :=
 (v = .slice none 0 0 ∧ l = []) ∨
 ∃ g cap,v = .slice (some ⟨g,0,none⟩) l.length cap ∧ B ≤ g ∧ g < w.heap.size ∧ l.length ≤ cap ∧ (∀ j (h : j < l.length),w.cell? ⟨g,j,none⟩ = some (.int .u8 (l[j].toNat : Int))) ∧
  (∀ j,l.length ≤ j → j < cap → (w.cell? ⟨g,j,none⟩).isSome = true ∧ w.frozen? ⟨g,j,none⟩ = false)
theorem OwnM.of {w : World} {B : Nat} {v : Value} {l : List UInt8} (h : Own w B 5 1 v l.length (u8s l)) : OwnM w B v l:=by
 obtain ⟨hl,h⟩:=h
 rcases h with ⟨h1,h2⟩ | ⟨g,cap,cur,e,hB,hg,hn,hm,hs,ht⟩
 ·exact .inl ⟨h1,List.eq_nil_of_length_eq_zero h2⟩
 ·have hb : Blk w g 5 cur:=hg
  rw [Nat.mul_one] at hs ht
  refine .inr ⟨g,cap,e,hB,hb.lt,hn,fun j hj => ?_,fun j h1 h2 => ⟨?_,hb.frozen j⟩⟩
  ·rw [hb.cell j]
   have h1:=u8s_at hj; rw [← ht,List.getElem?_take,if_pos (by omega),Array.getElem?_toList] at h1
   exact h1
  ·rw [hb.cell j,Array.getElem?_eq_getElem (by omega)]; rfl
theorem OwnM.rd {w : World} {B : Nat} {v : Value} {l : List UInt8} (h : OwnM w B v l) : Rd w 1 v l.length (u8s l):=by
 rcases h with ⟨rfl,rfl⟩ | ⟨g,cap,rfl,hB,hg,hn,hc,-⟩
 ·exact Rd.nil w 1
 ·refine ⟨_,_,rfl,hn,by rw [u8s_length,Nat.mul_one],fun _ => ⟨g,0,rfl,hg,fun j u hu => ?_⟩⟩
  rw [Nat.zero_add]
  by_cases hj : j < l.length
  ·rw [hc j hj,← u8s_at hj]; exact hu
  ·rw [List.getElem?_eq_none (by rw [u8s_length]; omega)] at hu; cases hu
theorem OwnM.lt {w : World} {B : Nat} {v : Value} {l : List UInt8} (h : OwnM w B v l) {k : Nat} (hk : v.ownBlock = some k) : B ≤ k ∧ k < w.heap.size:=by
 rcases h with ⟨rfl,rfl⟩ | ⟨g,cap,rfl,hB,hg,-⟩
 ·cases hk
 ·cases hk; exact ⟨hB,hg⟩
theorem OwnM.below {w w' : World} {B : Nat} {v : Value} {l : List UInt8} (h : OwnM w B v l) (hb : Below w.heap.size w w') : OwnM w' B v l:=by
 rcases h with h | ⟨g,cap,rfl,hB,hg,hn,hc,hf⟩
 ·exact .inl h
 ·refine .inr ⟨g,cap,rfl,hB,Nat.lt_of_lt_of_le hg hb.size,hn,fun j hj => ?_,fun j h1 h2 => ⟨?_,?_⟩⟩
  ·rw [hb.cell (p:=⟨g,j,none⟩) hg]; exact hc j hj
  ·rw [hb.cell (p:=⟨g,j,none⟩) hg]; exact (hf j h1 h2).1
  ·rw [hb.frozen (p:=⟨g,j,none⟩) hg]; exact (hf j h1 h2).2
theorem OwnM.base {w : World} {B B' : Nat} {v : Value} {l : List UInt8} (h : OwnM w B v l) (hB : B' ≤ B) : OwnM w B' v l :=
 h.imp id (fun ⟨g,cap,h1,h2,h3⟩ => ⟨g,cap,h1,Nat.le_trans hB h2,h3⟩)
theorem OwnM.conv (w : World) (l : List UInt8) : OwnM (Lib.bytesWorld w 5 (str l)) w.heap.size (.slice (some ⟨w.heap.size,0,none⟩) l.length (grownCap w l.length 0 5)) l:=by
 have hnew:=Lib.bytesWorld_at_new w 5 (str l); have hge:=grownCap_ge w l.length 0 5; have hsz : (Lib.bytesCells w 5 (str l)).size = grownCap w l.length 0 5:=by
  unfold Lib.bytesCells
  rw [Array.size_append,Array.size_map,Array.size_replicate]
  show l.length + _ = _
  rw [str_size]; omega
 refine .inr ⟨w.heap.size,_,rfl,Nat.le_refl _,by rw [Lib.bytesWorld_size]; omega,hge,fun j hj => ?_,fun j h1 h2 => ⟨?_,?_⟩⟩
 ·rw [Lib.bytesWorld_cell w 5 (str l) j (by rw [str_size]; exact hj)]
  show some (Value.int .u8 ((l.getD j 0).toNat : Int)) = _
  rw [List.getD_eq_getElem?_getD,List.getElem?_eq_getElem hj]; rfl
 ·simp only [World.cell?,hnew]
  rw [Array.getElem?_eq_getElem (by omega)]
  rfl
 ·simp only [World.frozen?,hnew]
  simp
  omega
theorem conv_below (w : World) (l : List UInt8) : Below w.heap.size w (Lib.bytesWorld w 5 (str l)) :=
 ⟨rfl,rfl,rfl,by rw [Lib.bytesWorld_size]; omega,fun k hk => Lib.bytesWorld_at_old w 5 (str l) k hk⟩
end Ck
open Ck
theorem setCells_size (g : Nat) : ∀ (vs : List Value) (o : Nat) (w : World),(w.setCells g o vs).heap.size = w.heap.size
 | [],_,_ => rfl
 | v :: r,o,_ => by rw [World.setCells,setCells_size g r (o + 1),size_setCell]
theorem setCells_below {B : Nat} {w0 : World} (g : Nat) (hB : B ≤ g) : ∀ (vs : List Value) (o : Nat) (w : World),Below B w0 w → Below B w0 (w.setCells g o vs)
 | [],_,_,h => h
 | v :: r,o,_,h => setCells_below g hB r (o + 1) _ (h.setCell (p:=⟨g,o,none⟩) hB v)
theorem run_push8M (w : World) (ty : TypeId) {B c m : Nat} {v : Value} {L : List UInt8} (M : List UInt8) {A : Option Addr} (hown : OwnM w B v L) (hm : M.length = m) (hR : Rd w 1 (.slice A m c) m (u8s M))
  (hn : L.length + m ≤ 10000000000) (hB : B ≤ w.heap.size) :
  ∃ v' w',(Builtin.append_ #[23,23] ty #[v,.slice A m c]).run Tryz.prog w = .ok v' w' ∧ OwnM w' B v' (L ++ M) ∧ Below B w w':=by
 subst hm; rcases id hown with ⟨rfl,rfl⟩ | ⟨g,cap,rfl,hB1,hg,hnc,hc,hf⟩
 ·obtain ⟨v',w',hr,h2,h3,-⟩:=run_push8 w ty (B:=B) (L:=[]) (own_nil w B 5 1) hR hn hB
  exact ⟨v',w',hr,.of h2,below_grown (own_nil w B 5 1) h3 hB⟩
 ·have hi:=infoU8
  cases hP : Tryz.prog.info? 5 with
  | none => rw [hP] at hi; cases hi
  | some i =>
   rw [hP] at hi
   simp only [Option.map_some,Option.some.injEq,Prod.mk.injEq] at hi
   obtain ⟨hz,hsize,hbytes⟩:=hi
   obtain ⟨A',c',e',hcc,hl,hr⟩:=hR
   cases e'; cases A with
   | none =>
    have hm : M.length = 0:=by
     rcases Nat.eq_zero_or_pos M.length with h0 | h0
     ·exact h0
     ·obtain ⟨b,o',e1,-⟩:=hr h0; cases e1
    have hnil:=List.eq_nil_of_length_eq_zero hm; subst hnil; refine ⟨_,w,run_append_nilx w 23 ty 5 i Tryz.underlying23 hP (some ⟨g,0,none⟩) L.length cap c hnc,?_,Below.refl _ _⟩
    rw [List.append_nil]
    exact hown
   | some ad =>
    have hcel : ∀ j u,(u8s M)[j]? = some u → w.cell? (ad.add j) = some u:=fun j u hu => by
     have hm : 0 < M.length:=by
      rcases Nat.eq_zero_or_pos M.length with h0 | h0
      ·rw [List.eq_nil_of_length_eq_zero h0] at hu; cases hu
      ·exact h0
     obtain ⟨b,o',e1,hlt,hx'⟩:=hr hm
     cases e1
     have hadd : (⟨b,o',none⟩ : Addr).add j = ⟨b,o' + j,none⟩:=by unfold Addr.add; split <;> simp_all
     rw [hadd]; exact hx' j u hu
    by_cases hroom : L.length + M.length ≤ cap
    ·have hr:=run_append_room_cells (P:=Tryz.prog) w 23 ty 5 i Tryz.underlying23 hP g 0 L.length cap ad M.length c (u8s M) (by rw [u8s_length,hsize,Nat.mul_one]) hcel (u8s_one M) hroom
      (fun j hj => by rw [u8s_length] at hj; rw [hsize]; exact (hf _ (by omega) (by omega)).1) (fun j hj => by rw [u8s_length] at hj; rw [hsize]; exact (hf _ (by omega) (by omega)).2)
     rw [hsize,Nat.mul_one,Nat.zero_add] at hr
     refine ⟨_,_,hr,.inr ⟨g,cap,by rw [List.length_append],hB1,?_,by rw [List.length_append]; exact hroom,fun j hj => ?_,fun j h1 h2 => ⟨?_,?_⟩⟩,?_⟩
     ·rw [setCells_size]; exact hg
     ·rw [List.length_append] at hj
      by_cases hjL : j < L.length
      ·rw [World.cell?_setCells_out g (u8s M) L.length w ⟨g,j,none⟩ (fun _ _ => .inl hjL),hc j hjL,List.getElem_append_left hjL]
      ·have e : j = L.length + (j - L.length):=by omega
       have h2:=World.cell?_setCells_in g (u8s M) L.length w (fun i hi => by rw [u8s_length] at hi; exact (hf _ (by omega) (by omega)).1) (j - L.length) (by rw [u8s_length]; omega)
       rw [← e] at h2
       rw [h2,List.getElem_append_right (by omega)]
       simp [u8s]
     ·exact World.isSome_setCells g (u8s M) L.length w _ (hf j (by rw [List.length_append] at h1; omega) h2).1
     ·rw [World.frozen?_setCells]; exact (hf j (by rw [List.length_append] at h1; omega) h2).2
     ·exact setCells_below g hB1 _ _ _ (Below.refl _ _)
    ·obtain ⟨v',w',hr2,h2,h3⟩:=run_append_arg_grows (P:=Tryz.prog) w 23 ty 5 i (.int .u8 0) 1 1 Tryz.underlying23 hP hz hsize hbytes rfl (by decide) ⟨g,0,none⟩ L.length cap (u8s L) (by rw [u8s_length,Nat.mul_one])
      (fun j u hu => by
       have hadd : (⟨g,0,none⟩ : Addr).add j = ⟨g,j,none⟩:=by unfold Addr.add; split <;> simp_all
       rw [hadd]
       by_cases hj : j < L.length
       ·rw [hc j hj,← u8s_at hj]; exact hu
       ·rw [List.getElem?_eq_none (by rw [u8s_length]; omega)] at hu; cases hu)
      ad M.length c (u8s M) (by rw [u8s_length,Nat.mul_one]) hcel (by omega) (by unfold maxLen; omega) (by omega)
     refine ⟨v',w',hr2,.of ?_,⟨h3.os,h3.tape,h3.output,h3.size,fun k hk => h3.block k (by omega) (by simp)⟩⟩
     rw [List.length_append,u8s_app]
     exact Own.base h2 hB
theorem step_pushM {ops : Array Oper} {rest : List Oper} {o : Oper} {a : Act} {Q : Exit → Act → World → Prop} {w : World} (s x : Operand)
  (hgd : o.guard = none) (ho : o.op = .call { callee:=.builtin .append,args:=#[s,x],argTypes:=#[23,23] })
  {B c m : Nat} {v : Value} {L : List UInt8} (M : List UInt8) {A : Option Addr} (hown : OwnM w B v L) (hs : a.eval s = v) (hx : a.eval x = .slice A m c) (hm : M.length = m) (hR : Rd w 1 (.slice A m c) m (u8s M)) (hn : L.length + m ≤ 10000000000) (hB : B ≤ w.heap.size)
  (h : ∀ v' w',OwnM w' B v' (L ++ M) → Below B w w' → wpList Tryz.prog ops Q rest (a.put o.dst v') w') : wpList Tryz.prog ops Q (o :: rest) a w:=by
 refine wpList_plain hgd fun K hK => ?_
 obtain ⟨v',w',hr,h2,h3⟩:=run_push8M w o.type M hown hm hR hn hB
 unfold Oper.wp execOp
 simp only [ho,resolve,invoke,builtin,Sem.run_bind,Sem.run_pure,Result.andThen_ok,List.map_toArray,List.map_cons,List.map_nil,hs,hx,hr]
 exact hK _ _ (h v' w' h2 h3)
end Go.Proofs.YtjffffpfejmoiaaGreatDoor
namespace Go.Proofs.YtjffffpfejmoiaaGreatDoor
open Go.RowKit Syn Ck
theorem strCells_u8s (s : List UInt8) : Lib.strCells (str s) = u8s s:=by unfold Lib.strCells u8s; simp [str]
theorem run_pushSM (w : World) (ty : TypeId) {B : Nat} {v : Value} {L : List UInt8} (M : List UInt8) (hown : OwnM w B v L) (hn : L.length + M.length ≤ 10000000000) (hB : B ≤ w.heap.size) :
  ∃ v' w',(Builtin.append_ #[23,9] ty #[v,.string (str M)]).run Tryz.prog w = .ok v' w' ∧ OwnM w' B v' (L ++ M) ∧ Below B w w':=by
 have hi:=infoU8; cases hP : Tryz.prog.info? 5 with
 | none => rw [hP] at hi; cases hi
 | some i =>
  rw [hP] at hi
  simp only [Option.map_some,Option.some.injEq,Prod.mk.injEq] at hi
  obtain ⟨hz,hsize,hbytes⟩:=hi
  have hsz:=str_size M; rcases id hown with ⟨rfl,rfl⟩ | ⟨g,cap,rfl,hB1,hg,hnc,hc,hf⟩
  ·obtain ⟨v',w',hr,h2,h3,-⟩:=Lib.run_append_own_string (P:=Tryz.prog) w B 23 9 ty 5 i Tryz.underlying23 Tryz.underlying9 hP hz hsize hbytes (.slice none 0 0) 0 [] (own_nil _ _ _ _) (str M) (by rw [hsz]; unfold maxLen; omega) (by rw [hsz]; omega) hB
   rw [hsz,strCells_u8s,List.nil_append,Nat.zero_add] at h2
   exact ⟨v',w',hr,.of h2,below_grown (own_nil w B 5 1) h3 hB⟩
  ·by_cases hroom : L.length + M.length ≤ cap
   ·have hfc:=Lib.run_firstCells_string (P:=Tryz.prog) w 1 (str M)
    have hst:=run_storeCells_cells (P:=Tryz.prog) g L.length (u8s M) 0 w (fun j hj => by rw [u8s_length] at hj; exact (hf _ (by omega) (by omega)).1) (fun j hj => by rw [u8s_length] at hj; exact (hf _ (by omega) (by omega)).2) (u8s_one M)
    simp only [Nat.add_zero] at hst
    have hr : (Builtin.append_ #[23,9] ty #[.slice (some ⟨g,0,none⟩) L.length cap,.string (str M)]).run Tryz.prog w = .ok (.slice (some ⟨g,0,none⟩) (L.length + M.length) cap) (w.setCells g L.length (u8s M)):=by
     rw [hsz,strCells_u8s] at hfc
     simp [Builtin.append_,run_underlying Tryz.underlying23,run_underlying Tryz.underlying9,sizeOf,typeInfo,hP,hsize,Builtin.lenOf,hsz,hroom,hfc,Addr.add_lit,hst]
    refine ⟨_,_,hr,.inr ⟨g,cap,by rw [List.length_append],hB1,?_,by rw [List.length_append]; exact hroom,fun j hj => ?_,fun j h1 h2 => ⟨?_,?_⟩⟩,?_⟩
    ·rw [setCells_size]; exact hg
    ·rw [List.length_append] at hj
     by_cases hjL : j < L.length
     ·rw [World.cell?_setCells_out g (u8s M) L.length w ⟨g,j,none⟩ (fun _ _ => .inl hjL),hc j hjL,List.getElem_append_left hjL]
     ·have e : j = L.length + (j - L.length):=by omega
      have h2:=World.cell?_setCells_in g (u8s M) L.length w (fun i hi => by rw [u8s_length] at hi; exact (hf _ (by omega) (by omega)).1) (j - L.length) (by rw [u8s_length]; omega)
      rw [← e] at h2
      rw [h2,List.getElem_append_right (by omega)]
      simp [u8s]
    ·exact World.isSome_setCells g (u8s M) L.length w _ (hf j (by rw [List.length_append] at h1; omega) h2).1
    ·rw [World.frozen?_setCells]; exact (hf j (by rw [List.length_append] at h1; omega) h2).2
    ·exact setCells_below g hB1 _ _ _ (Below.refl _ _)
   ·have holds : ∀ j u,(u8s L)[j]? = some u → w.cell? ((⟨g,0,none⟩ : Addr).add j) = some u:=fun j u hu => by
     have hadd : (⟨g,0,none⟩ : Addr).add j = ⟨g,j,none⟩:=by unfold Addr.add; split <;> simp_all
     rw [hadd]
     by_cases hj : j < L.length
     ·rw [hc j hj,← u8s_at hj]; exact hu
     ·rw [List.getElem?_eq_none (by rw [u8s_length]; omega)] at hu; cases hu
    have hfit : Builtin.nextslicecap (L.length + (str M).size) cap * i.bytes ≤ 281474976710656:=growslice_fits (by rw [hsz]; omega) (by rw [hsz,hbytes]; omega)
    have hr:=Lib.run_append_grow_string (P:=Tryz.prog) w 23 9 ty 5 i (.int .u8 0) Tryz.underlying23 Tryz.underlying9 hP hz ⟨g,0,none⟩ L.length cap (u8s L) (by rw [u8s_length,hsize,Nat.mul_one]) holds (str M) (by rw [hsz]; omega) (by rw [hsz]; omega) hfit
    rw [hsz,strCells_u8s] at hr
    have hge:=grownCap_ge w (L.length + M.length) cap 5; have hb2 : Below B w (w.drew.alloc (.cells ((u8s L).toArray ++ (u8s M).toArray ++ Builtin.zeroCells (Value.int .u8 0).cells (grownCap w (L.length + M.length) cap 5 - (L.length + M.length))) 5)):=(below_drewN (Below.refl B w) 1).alloc hB _
    refine ⟨_,_,hr,.of ?_,hb2⟩
    have hlen : (u8s (L ++ M)).length = (L ++ M).length * 1:=by rw [u8s_length,Nat.mul_one]
    refine ⟨hlen,.inr ⟨w.heap.size,_,_,by rw [List.length_append],hB,heap_alloc_new w.drew _,by rw [List.length_append]; exact hge,grownCap_le_maxLen w (L.length + M.length) cap 5 (by unfold maxLen; omega),?_,?_⟩⟩
    ·have hz1 : (Value.int IntKind.u8 0).cells.size = 1:=rfl
     simp only [Array.size_append,List.size_toArray,size_zeroCells,u8s_length,hz1]
     omega
    ·simp only [Array.toList_append,List.append_assoc]
     rw [← List.append_assoc,← u8s_app,← hlen]
     exact List.take_left
theorem step_pushSM {ops : Array Oper} {rest : List Oper} {o : Oper} {a : Act} {Q : Exit → Act → World → Prop} {w : World} (s x : Operand)
  (hgd : o.guard = none) (ho : o.op = .call { callee:=.builtin .append,args:=#[s,x],argTypes:=#[23,9] })
  {B : Nat} {v : Value} {L : List UInt8} (M : List UInt8) {sx : ByteArray} (hown : OwnM w B v L) (hs : a.eval s = v) (hx : a.eval x = .string sx) (hm : sx = str M) (hn : L.length + M.length ≤ 10000000000) (hB : B ≤ w.heap.size)
  (h : ∀ v' w',OwnM w' B v' (L ++ M) → Below B w w' → wpList Tryz.prog ops Q rest (a.put o.dst v') w') : wpList Tryz.prog ops Q (o :: rest) a w:=by
 refine wpList_plain hgd fun K hK => ?_
 subst hm; obtain ⟨v',w',hr,h2,h3⟩:=run_pushSM w o.type M hown hn hB
 unfold Oper.wp execOp
 simp only [ho,resolve,invoke,builtin,Sem.run_bind,Sem.run_pure,Result.andThen_ok,List.map_toArray,List.map_cons,List.map_nil,hs,hx,hr]
 exact hK _ _ (h v' w' h2 h3)
end Go.Proofs.YtjffffpfejmoiaaGreatDoor
namespace Go.Proofs.YtjffffpfejmoiaaGreatDoor
open Go.RowKit Syn
namespace Ck
theorem tc_low {c : UInt8} (h : tc c = true) : tc (low c) = true:=by
 unfold low; split
 ·next hc =>
  have e : (c + 32).toNat = c.toNat + 32:=by rw [UInt8.toNat_add]; have : (32 : UInt8).toNat = 32:=rfl; rw [this]; omega
  unfold tc tcN; rw [e]; simp; omega
 ·exact h
theorem low_low (c : UInt8) : low (low c) = low c:=by
 by_cases hc : 65 ≤ c.toNat ∧ c.toNat ≤ 90
 ·have e1 : low c = c + 32:=by unfold low; rw [if_pos hc]
  have e : (c + 32).toNat = c.toNat + 32:=by rw [UInt8.toNat_add]; have : (32 : UInt8).toNat = 32:=rfl; rw [this]; omega
  rw [e1]; unfold low; rw [if_neg (by rw [e]; omega)]
 ·have e1 : low c = c:=by unfold low; rw [if_neg hc]
  rw [e1,e1]
theorem lower_lower (l : List UInt8) : Syn.lower (Syn.lower l) = Syn.lower l:=by
 unfold Syn.lower; rw [List.map_map]; exact List.map_congr_left fun c _ => low_low c
theorem tok_lower {l : List UInt8} (h : isTok l = true) : isTok (Syn.lower l) = true:=by
 unfold isTok at *
 rw [Bool.and_eq_true] at *
 refine ⟨?_,?_⟩
 ·unfold Syn.lower; rw [List.all_map,List.all_eq_true]
  exact fun c hc => tc_low (List.all_eq_true.1 h.1 c hc)
 ·cases l with
  | nil => simp at h
  | cons a l => rfl
theorem tc_clean {c : UInt8} (h : tc c = true) : ctl c = false:=by
 unfold tc tcN puncts at h
 unfold ctl ctlN
 simp at h ⊢
 omega
theorem tok_clean {l : List UInt8} (h : isTok l = true) : cln l = true:=by
 unfold isTok at h
 rw [Bool.and_eq_true] at h
 unfold cln; rw [List.all_eq_true]
 intro c hc; rw [tc_clean (List.all_eq_true.1 h.1 c hc)]; rfl
theorem cln_byte {l : List UInt8} (h : cln l = true) : ∀ c ∈ l,c.toNat ≠ 0 ∧ c.toNat ≠ 10 ∧ c.toNat ≠ 13:=fun c hc => by
 unfold cln at h
 rw [List.all_eq_true] at h
 have:=h c hc
 unfold ctl ctlN at this
 simp at this
 omega
theorem nmE_tok {x : List UInt8} (h : nmE x = 0) : isTok x = true ∧ x.length ≤ 64 ∧ nmV x = Syn.lower x:=by
 have hv : nmV x = Syn.lower x:=by unfold nmV; rw [if_pos h]
 unfold nmE at h
 split at h
 ·rename_i ht
  split at h
  ·cases h
  ·exact ⟨ht,by omega,hv⟩
 ·cases h
theorem vlE_cln {x : List UInt8} (h : vlE x = 0) : cln x = true ∧ (trim x).length ≤ 2048 ∧ vlV x = trim x:=by
 have hv : vlV x = trim x:=by unfold vlV; rw [if_pos h]
 unfold vlE at h
 split at h
 ·rename_i ht
  split at h
  ·cases h
  ·exact ⟨ht,by omega,hv⟩
 ·cases h
theorem tok58 {x : List UInt8} (h : isTok x = true) : ∀ c ∈ x,c ≠ 58:=fun c hc e => by
 unfold isTok at h
 rw [Bool.and_eq_true,List.all_eq_true] at h
 have:=h.1 c hc
 rw [e] at this
 exact absurd this (by decide)
theorem take58 : ∀ (x y : List UInt8),(∀ c ∈ x,c ≠ 58) → (x ++ 58 :: y).takeWhile (· != 58) = x ∧ (x ++ 58 :: y).dropWhile (· != 58) = 58 :: y
 | [],y,_ => by simp
 | a :: r,y,h => by
  have ha : (a != 58) = true:=by rw [bne_iff_ne]; exact h a (by simp)
  obtain ⟨h1,h2⟩:=take58 r y (fun c hc => h c (by simp [hc]))
  rw [List.cons_append,List.takeWhile_cons,List.dropWhile_cons,if_pos ha,if_pos ha,h1,h2]
  exact ⟨rfl,rfl⟩
theorem nmE_lower {x : List UInt8} (h : nmE x = 0) : nmE (nmV x) = 0 ∧ nmV (nmV x) = nmV x:=by
 obtain ⟨h1,h2,h3⟩:=nmE_tok h
 have h4 : nmE (nmV x) = 0:=by
  unfold nmE
  rw [h3,if_pos (tok_lower h1),if_neg (by unfold Syn.lower; rw [List.length_map]; omega)]
 refine ⟨h4,?_⟩
 have h5:=(nmE_tok h4).2.2; rw [h5,h3,lower_lower]
theorem trim_sp (x : List UInt8) : trim (32 :: x) = trim x:=rfl
theorem vlE_sp {x : List UInt8} (h : vlE x = 0) : vlE (32 :: x) = 0 ∧ vlV (32 :: x) = vlV x:=by
 obtain ⟨h1,h2,h3⟩:=vlE_cln h
 have h4 : vlE (32 :: x) = 0:=by
  unfold vlE
  have : cln (32 :: x) = true:=by unfold cln at *; rw [List.all_cons,h1]; rfl
  rw [if_pos this,trim_sp,if_neg (by omega)]
 exact ⟨h4,by rw [(vlE_cln h4).2.2,trim_sp,h3]⟩
end Ck
end Go.Proofs.YtjffffpfejmoiaaGreatDoor
