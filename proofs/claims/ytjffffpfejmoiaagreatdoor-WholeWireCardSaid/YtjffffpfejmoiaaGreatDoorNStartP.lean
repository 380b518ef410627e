import Derived.Test.YtjffffpfejmoiaaGreatDoorNMem
namespace Go.Proofs.YtjffffpfejmoiaaGreatDoor
open Go.RowKit Syn Hd Fr Ck
namespace Cn
theorem okR_few {p : List UInt8 × List UInt8} (h : okR p) : p.1.length ≤ 5000 ∧ p.2.length ≤ 5000:=by
 obtain ⟨h1,h2,h3,h4⟩:=h
 constructor
 ·unfold nmE at h1
  split at h1
  ·split at h1
   ·cases h1
   ·omega
  ·cases h1
 ·unfold vlE at h3
  split at h3
  ·split at h3
   ·cases h3
   ·next h =>
    have : (trim p.2).length = p.2.length:=by
     have e : vlV p.2 = trim p.2:=if_pos (by
      unfold vlE
      rw [if_pos (by assumption),if_neg h])
     rw [← e,h4]
    omega
  ·cases h3
theorem rr_lines {b : List UInt8} (h : rrE b = 0) : lnE b = 0 ∧ hdsE (lnL b).tail = 0:=by
 unfold rrE at h
 split at h
 ·next hl =>
  refine ⟨hl,?_⟩
  unfold rrX at h
  split at h
  ·split at h
   ·cases h
   ·exact h
  ·cases h
 ·next hl => exact absurd h hl
theorem rq_lines {b : List UInt8} (h : rqE b = 0) : lnE b = 0 ∧ hdsE (lnL b).tail = 0:=by
 unfold rqE at h
 split at h
 ·next hl =>
  refine ⟨hl,?_⟩
  unfold rqX at h
  split at h
  ·cases h
  ·split at h
   ·cases h
   ·split at h
    ·split at h
     ·next h2 => exact h2
     ·next h2 => exact absurd h h2
    ·cases h
 ·next hl => exact absurd h hl
theorem few_rr {b : List UInt8} (h : rrE b = 0) : Few (rrL b):=by
 obtain ⟨h1,h2⟩:=rr_lines h
 have hf:=lnE_few h1; refine ⟨by unfold rrL; rw [List.length_map,List.length_tail]; omega,fun p hp => ?_⟩
 obtain ⟨l,hl,rfl⟩:=List.mem_map.1 hp
 exact okR_few (hd_okR (hds_all h2 l hl)).1
theorem allV_sub {L : List (List UInt8 × List UInt8)} {x : List UInt8} {M : Nat} (h : ∀ p ∈ L,p.2.length ≤ M) (hx : hsX L = some x) : x.length ≤ M:=by
 unfold hsX at hx
 split at hx
 ·next y he =>
  split at hx
  ·cases hx
   obtain ⟨p,hp,rfl⟩:=allV_mem (show y ∈ allV L hostN by rw [he]; simp)
   rw [lower_length]; exact h p hp
  ·cases hx
 ·cases hx
theorem few_rq {b : List UInt8} (h : rqE b = 0) : Few (rqL b):=by
 obtain ⟨h1,h2⟩:=rq_lines h
 have hf:=lnE_few h1; have hall : ∀ p ∈ (lnL b).tail.map hdV,p.1.length ≤ 5000 ∧ p.2.length ≤ 5000:=fun p hp => by
  obtain ⟨l,hl,rfl⟩:=List.mem_map.1 hp
  exact okR_few (hd_okR (hds_all h2 l hl)).1
 refine ⟨by unfold rqL rqF; rw [List.length_map,List.length_map,List.length_tail]; omega,fun p hp => ?_⟩
 unfold rqL rqF at hp
 obtain ⟨q,hq,rfl⟩:=List.mem_map.1 hp
 unfold rep
 split
 ·refine ⟨show hostN.length ≤ 5000 by decide,?_⟩
  cases hx : hsX ((lnL b).tail.map hdV) with
  | none => exact Nat.zero_le _
  | some x => exact allV_sub (fun p hp => (hall p hp).2) hx
 ·exact hall q hq
theorem lengthOf_le (x : List UInt8) : (lengthOf x).1.2 ≤ 65536:=by
 unfold lengthOf
 split
 ·split
  ·exact Nat.zero_le _
  ·simp only; omega
 ·exact Nat.zero_le _
theorem frame_le (K : Nat) (L : List (List UInt8 × List UInt8)) : (frame K L).1.2 ≤ 65536:=by
 unfold frame
 split
 ·exact Nat.zero_le _
 ·split
  ·unfold frameC
   split
   ·split <;> exact Nat.zero_le _
   ·exact Nat.zero_le _
  ·split
   ·exact Nat.zero_le _
   ·unfold frameL
    split
    ·split
     ·exact lengthOf_le _
     ·exact Nat.zero_le _
    ·exact Nat.zero_le _
theorem respF_le (mt : List UInt8) (z : Int) (f : Fr.Out) (h : f.1.2 ≤ 65536) : (respF mt z f).1.2 ≤ 65536:=by
 unfold respF
 split
 ·exact Nat.zero_le _
 ·split
  ·exact Nat.zero_le _
  ·exact h
theorem hFr_le (c : C) : (hFr c).1.2 ≤ 65536:=by
 unfold hFr
 split
 ·exact respF_le _ _ _ (frame_le _ _)
 ·exact frame_le _ _
theorem decv_new {w : World} {g : Nat} (hb : Blk w g 137 (Ck.cells 0 0 0 0 0 (.slice none 0 0) false 0 (.slice none 0 0) .nilIface)) : Decv w g (· = g) Ck.zero .nilIface:=by
 refine ⟨rfl,fun k e => by rw [e]; exact hb.lt,0,0,0,0,0,_,false,0,_,hb,⟨fun e => (by cases e),fun e => (by cases e)⟩,fun _ => ⟨ok_zero,?_,rfl,rfl,own_nil _ _ _ _,own_nil _ _ _ _,fun k h => (by cases h),fun k h => (by cases h)⟩⟩
 exact ⟨rfl,fun _ => ⟨rfl,rfl,rfl,rfl⟩,fun e => (by cases e),fun e => (by rcases e with e | e <;> cases e)⟩
theorem live_start {w w' : World} {g : Nat} {F F' : Nat → Prop} {c : C} {vm vb vb' vd vd' : Value} {kv lv : Int} (hL : Live w g F c vm vb kv lv vd) (hk : Kp (· = g) w w') (hs : sE c = 0)
  (hF' : ∀ k,F k → F' k) (hn : ∃ b o cap,vb' = .slice (some ⟨b,o,none⟩) (dr c.buf).length cap) (hR : Rd w' 1 vb' (dr c.buf).length (u8s (dr c.buf))) (hO : On (fun k => F k ∧ k ≠ g) vb')
  (hd : inf c = false → (hFr c).1.1 = 3 → DecAt w' F' g (sC c) vm vb' vd') : Live w' g F' (sC c) vm vb' ((hFr c).1.1 : Int) ((hFr c).1.2 : Int) vd':=by
 obtain ⟨h1,h2,h3,h4⟩:=sE_hE hs
 refine ⟨hL.meth.kp (hL.methF.off fun k h e => h.2 e) hk,hL.methF.mono (fun k h => ⟨hF' k h.1,h.2⟩),hL.few,(by obtain ⟨b,o,cap,h1⟩:=hn; exact ⟨_,cap,h1,fun e => (by cases e),fun _ _ => ⟨b,o,rfl⟩⟩),hR,hO.mono (fun k h => ⟨hF' k h.1,h.2⟩),?_,fun _ hr hm => h2 ⟨hr,hm⟩,fun hb => ⟨rfl,rfl,?_,fun h => ⟨rfl,hd ?_ h⟩⟩⟩
 ·show c.many + 1 ≤ 64; omega
 ·have:=hFr_le c; show (hFr c).1.2 ≤ 1000000; omega
 ·change (!inf c) = true at hb; simpa using hb
def Shp (xs : List Value) : Prop:=∃ (k : Int) (m t : ByteArray) (A : Option Addr) (n cp : Nat) (z : Int) (A' : Option Addr) (n' cp' : Nat),xs = [.int .i64 k,.string m,.string t,.slice A n cp,.int .i64 z,.slice A' n' cp',.slice none 0 0,.slice none 0 0]
def StartR (w : World) (g : Nat) (F : Nat → Prop) (c : C) (e : Ending) (w' : World) : Prop :=
  Kp (· = g) w w' ∧
  ((∃ xs,Shp xs ∧ e = .returned (.tuple #[evV xs,.bool false]) ∧ ((wait c ∧ At w' g F c) ∨ (¬ wait c ∧ sE c ≠ 0 ∧ At w' g F { c with err:=sE c }))) ∨
   (¬ wait c ∧ sE c = 0 ∧ ∃ xs F',e = .returned (.tuple #[evV xs,.bool true]) ∧ (∀ k,F' k → F k ∨ w.heap.size ≤ k) ∧ EvC w' (fun k => w.heap.size ≤ k ∧ k < w'.heap.size ∧ ¬ F' k) (hEv c) xs ∧ At w' g F' (sC c)))
def CutB (A : Option Addr) (n cap N : Nat) (v : Value) : Prop:=∃ b o,A = some ⟨b,o,none⟩ ∧ N ≤ n ∧ n ≤ cap ∧ ((N < cap ∧ v = .slice (some ⟨b,o + N,none⟩) (n - N) (cap - N)) ∨ (N = cap ∧ v = .slice (some ⟨b,o,none⟩) 0 0))
theorem CutB.rd {w : World} {A : Option Addr} {cap N : Nat} {l : List UInt8} {v : Value} (h : CutB A l.length cap N v) (hR : Rd w 1 (.slice A l.length cap) l.length (u8s l)) :
  Rd w 1 v (l.drop N).length (u8s (l.drop N)) ∧ (∃ b' o' cap',v = .slice (some ⟨b',o',none⟩) (l.drop N).length cap') ∧ ∀ P,On P (.slice A l.length cap) → On P v:=by
 obtain ⟨b,o,rfl,h1,h2,⟨h3,rfl⟩ | ⟨h3,rfl⟩⟩:=h
 ·obtain ⟨-,hp⟩:=hR.part N (l.length - N) (cap - N) (by omega) (by omega)
  rw [List.take_of_length_le (by rw [List.length_drop]; omega)] at hp
  rw [List.length_drop]
  exact ⟨hp,⟨_,_,_,rfl⟩,fun P hP k hk => hP k hk⟩
 ·have e : l.drop N = []:=List.drop_of_length_le (by omega)
  rw [e]
  exact ⟨⟨_,_,rfl,Nat.le_refl _,rfl,fun h => absurd h (by decide)⟩,⟨_,_,_,rfl⟩,fun P hP k hk => hP k hk⟩
theorem dr_drop {b : List UInt8} {N : Nat} (h : Hd.endF b = (N : Int)) : dr b = b.drop N:=by unfold dr; rw [h]; rfl
theorem StartR.fin {w w' : World} {g N : Nat} {F : Nat → Prop} {c : C} {vm vb' vd vd' : Value} {kv lv : Int} {A : Option Addr} {cap : Nat} {xs : List Value}
  (hL : Live w g F c vm (.slice A c.buf.length cap) kv lv vd) (h0 : c.err = 0) (hs : sE c = 0) (hF : F g) (hlt : ∀ k,F k → k < w.heap.size) (hk : Kp (· = g) w w') (hN : Hd.endF c.buf = (N : Int)) (hcut : CutB A c.buf.length cap N vb')
  (hb : Blk w' g 73 (cells (sC c) vm vb' ((hFr c).1.1 : Int) ((hFr c).1.2 : Int) vd' .nilIface)) (hd : ¬ (inf c = false ∧ (hFr c).1.1 = 3))
  (hE : EvC w' (fun k => w.heap.size ≤ k ∧ k < w'.heap.size) (hEv c) xs) : StartR w g F c (.returned (.tuple #[evV xs,.bool true])) w':=by
 obtain ⟨h1,h2,h3⟩:=hcut.rd hL.buf
 have hw : ¬ wait c:=fun h => by have:=(sE_hE hs).1; rw [h.2] at this; cases this
 refine ⟨hk,.inr ⟨hw,hs,xs,F,rfl,fun k h => .inl h,hE.mono (fun k h => ⟨h.1,h.2,fun hf => by have:=hlt k hf; omega⟩),hF,fun k h => Nat.lt_of_lt_of_le (hlt k h) hk.size,vm,vb',((hFr c).1.1 : Int),((hFr c).1.2 : Int),vd',?_,fun _ => ?_⟩⟩
 ·show Blk w' g _ (cells (sC c) vm vb' _ _ vd' (errV c.err))
  rw [h0]; exact hb
 ·exact live_start hL hk hs (fun k h => h) (by rw [dr_drop hN]; exact h2) (by rw [dr_drop hN]; exact h1.kp ((h3 _ hL.bufF).off fun k h e => h.2 e) hk) (h3 _ hL.bufF) (fun a b => absurd ⟨a,b⟩ hd)
theorem StartR.finD {w w' : World} {g gd N : Nat} {F : Nat → Prop} {c : C} {vm vb' vd : Value} {kv lv : Int} {A : Option Addr} {cap : Nat} {xs : List Value}
  (hL : Live w g F c vm (.slice A c.buf.length cap) kv lv vd) (h0 : c.err = 0) (hs : sE c = 0) (hF : F g) (hlt : ∀ k,F k → k < w.heap.size) (hk : Kp (· = g) w w') (hN : Hd.endF c.buf = (N : Int)) (hcut : CutB A c.buf.length cap N vb')
  (hb : Blk w' g 73 (cells (sC c) vm vb' ((hFr c).1.1 : Int) ((hFr c).1.2 : Int) (.pointer (some ⟨gd,0,none⟩)) .nilIface)) (hgd : w.heap.size ≤ gd) (hD : Blk w' gd 137 (Ck.cells 0 0 0 0 0 (.slice none 0 0) false 0 (.slice none 0 0) .nilIface))
  (hE : EvC w' (fun k => w.heap.size ≤ k ∧ k < gd) (hEv c) xs) : StartR w g F c (.returned (.tuple #[evV xs,.bool true])) w':=by
 obtain ⟨h1,h2,h3⟩:=hcut.rd hL.buf
 have hw : ¬ wait c:=fun h => by have:=(sE_hE hs).1; rw [h.2] at this; cases this
 have hne : ∀ k,F k → k ≠ gd:=fun k h e => by have:=hlt k h; omega
 refine ⟨hk,.inr ⟨hw,hs,xs,fun k => F k ∨ k = gd,rfl,fun k h => h.imp id (fun e => by omega),hE.mono (fun k h => ⟨h.1,Nat.lt_trans h.2 hD.lt,fun hf => by
  rcases hf with hf | hf
  ·have:=hlt k hf; omega
  ·omega⟩),.inl hF,fun k h => ?_,vm,vb',((hFr c).1.1 : Int),((hFr c).1.2 : Int),.pointer (some ⟨gd,0,none⟩),?_,fun _ => ?_⟩⟩
 ·rcases h with h | rfl
  ·exact Nat.lt_of_lt_of_le (hlt k h) hk.size
  ·exact hD.lt
 ·show Blk w' g _ (cells (sC c) vm vb' _ _ _ (errV c.err))
  rw [h0]; exact hb
 ·refine live_start hL hk hs (fun k h => .inl h) (by rw [dr_drop hN]; exact h2) (by rw [dr_drop hN]; exact h1.kp ((h3 _ hL.bufF).off fun k h e => h.2 e) hk) (h3 _ hL.bufF) (fun _ _ => ?_)
  exact ⟨gd,(· = gd),rfl,decv_new hD,fun k e => .inr e,fun e => hne g hF e,hL.methF.off fun k h => hne k h.1,(h3 _ hL.bufF).off fun k h => hne k h.1⟩
end Cn
end Go.Proofs.YtjffffpfejmoiaaGreatDoor
