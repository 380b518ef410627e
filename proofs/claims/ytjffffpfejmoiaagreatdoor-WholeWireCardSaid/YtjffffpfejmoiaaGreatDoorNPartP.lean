import Derived.Test.YtjffffpfejmoiaaGreatDoorNEv
import Derived.Test.YtjffffpfejmoiaaGreatDoorNStartP
namespace Go.Proofs.YtjffffpfejmoiaaGreatDoor
open Go.RowKit Syn Hd Fr Ck
namespace Cn
def PartR (w : World) (g : Nat) (F : Nat → Prop) (c : C) (e : Ending) (w' : World) : Prop :=
 ∃ o F' xs,e = .returned o ∧ EvsC w' (fun k => w.heap.size ≤ k ∧ k < w'.heap.size ∧ ¬ F' k) (pEv c) xs ∧ Own w' w.heap.size 77 8 o (pEv c).length xs ∧ Off F' o ∧ (∀ k,F' k → F k ∨ w.heap.size ≤ k) ∧ Kp F w w' ∧ At w' g F' (pC c)
theorem pLen_le (c : C) : pLen c ≤ c.len:=by
 unfold pLen; split
 ·exact Nat.le_refl _
 ·exact Nat.sub_le _ _
theorem PartR.mk {w w' : World} {g B : Nat} {F F' : Nat → Prop} {c : C} {o vm vb vd vm' vb' vd' : Value} {kv lv lv' : Int} {D : List UInt8} {dn : Bool} {T : Flds} {er : Int} {meth' : List (List UInt8)} {buf' : List UInt8} {xs : List Value}
  (hL : Live w g F c vm vb kv lv vd) (hbd : c.body = true) (hD : pData c = D) (hdn : pDone c = dn) (hT : dn = true → pTr c = T) (her : pErr c = er) (hbu : pBuf c = buf') (hme : (if (dn && c.resp) = true then c.meth.tail else c.meth) = meth')
  (hxs : EvsC w' (fun k => B ≤ k ∧ k < w'.heap.size) (evs D dn T) xs) (hO : Own w' B 77 8 o (evs D dn T).length xs) (hB : w.heap.size ≤ B) (hFB : ∀ k,F' k → k < B) (hBw : B ≤ w'.heap.size)
  (hF : F' g) (hFF : ∀ k,F' k → F k ∨ w.heap.size ≤ k) (hk : Kp F w w')
  (hb : Blk w' g 73 #[.bool c.resp,.bool c.closed,.bool (!dn),vm',.int .i64 (c.many : Int),vb',.int .i64 kv,.int .i64 lv',vd',errV er])
  (hl : er = 0 → Rd w' 1 vm' meth'.length (strs meth') ∧ On (fun k => F' k ∧ k ≠ g) vm' ∧ (∃ A cap,vb' = .slice A buf'.length cap ∧ (A = none → cap = 0) ∧ (c.kind ≠ 4 → ∃ b o,A = some ⟨b,o,none⟩)) ∧ Rd w' 1 vb' buf'.length (u8s buf') ∧ On (fun k => F' k ∧ k ≠ g) vb' ∧
   (dn = false → lv' = (pLen c : Int) ∧ (c.kind = 3 → DecAt w' F' g (pC c) vm' vb' vd'))) : PartR w g F c (.returned o) w':=by
 have hev : evs D dn T = pEv c:=by
  unfold pEv
  rw [hD,hdn]
  cases dn with
  | false => rfl
  | true => rw [hT rfl]
 rw [hev] at hxs hO
 have hmt : (pC c).meth = meth':=by
  show (if (pDone c && c.resp) = true then c.meth.tail else c.meth) = meth'
  rw [hdn]; exact hme
 refine ⟨o,F',xs,rfl,hxs.mono (fun k h => ⟨by omega,h.2,fun hf => by have:=hFB k hf; omega⟩),hO.base hB,fun k hk2 hf => ?_,hFF,hk,hF,fun k hf => by have:=hFB k hf; omega,vm',vb',kv,lv',vd',?_,fun h0 => ?_⟩
 ·have h1:=(World.ownsRow.lt hO k hk2).1
  have h2:=hFB k hf; omega
 ·show Blk w' g _ #[.bool c.resp,.bool c.closed,.bool (!pDone c),vm',.int .i64 (c.many : Int),vb',.int .i64 kv,.int .i64 lv',vd',errV (pErr c)]
  rw [hdn,her]; exact hb
 ·have h0' : er = 0:=by rw [← her]; exact h0
  obtain ⟨h1,h2,⟨A,cap,h3,h4,h5⟩,h6,h7,h8⟩:=hl h0'
  obtain ⟨f1,f2,f3,f4⟩:=hL.frame hbd
  have hlen : meth'.length ≤ c.meth.length:=by
   rw [← hme]
   split
   ·rw [List.length_tail]; omega
   ·exact Nat.le_refl _
  refine ⟨by rw [hmt]; exact h1,h2,by rw [hmt]; exact Nat.le_trans hlen hL.few,⟨A,cap,by rw [h3,← hbu]; rfl,h4,fun _ => h5⟩,?_,h7,hL.many,fun hb2 hr => ?_,fun hb2 => ?_⟩
  ·show Rd w' 1 vb' (pBuf c).length (u8s (pBuf c))
   rw [hbu]; exact h6
  ·have hdf : dn = false:=by change (!pDone c) = true at hb2; rw [hdn] at hb2; simpa using hb2
   subst hdf; rw [hmt,← hme]
   exact hL.one hbd hr
  ·have hdf : dn = false:=by change (!pDone c) = true at hb2; rw [hdn] at hb2; simpa using hb2
   obtain ⟨g1,g2⟩:=h8 hdf
   refine ⟨f1,g1,Nat.le_trans (pLen_le c) f3,fun h3 => ⟨?_,g2 h3⟩⟩
   have he : pErr c = 0:=h0
   have hk3 : c.kind = 3:=h3
   unfold pErr at he
   rw [if_pos hk3] at he
   show (pDec c).bad = 0
   unfold pDec
   rw [if_pos hk3]
   omega
theorem meth_tail {w w' : World} {g : Nat} {F F' : Nat → Prop} {G : Nat → Prop} {L : List (List UInt8)} {A : Option Addr} {cap : Nat} (h : Rd w 1 (.slice A L.length cap) L.length (strs L)) (hne : L ≠ []) (hk : Kp G w w') (hO : On (fun k => F k ∧ k ≠ g) (.slice A L.length cap)) (hG : ∀ k,(Value.slice A L.length cap).ownBlock = some k → ¬ G k) (hF : ∀ k,F k → F' k) :
  ∃ b o,A = some ⟨b,o,none⟩ ∧ (cap = 1 → Rd w' 1 (.slice (some ⟨b,o,none⟩) 0 0) L.tail.length (strs L.tail)) ∧ (cap ≠ 1 → Rd w' 1 (.slice (some ⟨b,o + 1,none⟩) L.tail.length (cap - 1)) L.tail.length (strs L.tail)) ∧
   (∀ v,v.ownBlock = some b → On (fun k => F' k ∧ k ≠ g) v):=by
 cases L with
 | nil => exact absurd rfl hne
 | cons x r =>
  have h':=h.kp (show Off G (.slice A (x :: r).length cap) from hG) hk; obtain ⟨A',c',e,hc,hl,hr⟩:=id h'; cases e; obtain ⟨b,o,rfl,hlt,hx⟩:=hr (by simp)
  refine ⟨b,o,rfl,fun hc1 => ?_,fun _ => rd_tail h',fun v hv k hk2 => ?_⟩
  ·rw [List.length_cons] at hc
   have : r = []:=List.eq_nil_of_length_eq_zero (by omega)
   subst this; exact rd_none0 w' _
  ·rw [hv] at hk2
   cases hk2
   have:=hO b rfl
   exact ⟨hF b this.1,this.2⟩
theorem own_len {w : World} {B n : Nat} {v : Value} {D : List UInt8} (h : Own w B 5 1 v n (u8s D)) (hl : D.length = n) : Own w B 5 1 v D.length (u8s D):=by rw [hl]; exact h
theorem rd_frontB {w : World} {A : Option Addr} {c m : Nat} {l : List UInt8} (h : Rd w 1 (.slice A l.length c) l.length (u8s l)) (hm : m ≤ l.length) : Rd w 1 (.slice A m c) m (u8s (l.take m)):=by
 obtain ⟨A',c',e,hc,hl,hr⟩:=h
 cases e; refine ⟨_,_,rfl,by omega,by rw [u8s_length,List.length_take]; omega,fun hn => ?_⟩
 obtain ⟨b,o,e,hlt,hx⟩:=hr (by omega)
 refine ⟨b,o,e,hlt,fun j u hu => hx j u ?_⟩
 unfold u8s at hu ⊢
 rw [List.map_take] at hu
 have hj : j < m:=by
  rcases Nat.lt_or_ge j m with h | h
  ·exact h
  ·rw [List.getElem?_eq_none (by rw [List.length_take]; omega)] at hu; cases hu
 rwa [List.getElem?_take,if_pos hj] at hu
end Cn
end Go.Proofs.YtjffffpfejmoiaaGreatDoor
