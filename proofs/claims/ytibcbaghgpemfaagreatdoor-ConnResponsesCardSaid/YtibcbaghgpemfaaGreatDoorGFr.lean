import Derived.Test.YtibcbaghgpemfaaGreatDoorGHo
import Derived.Test.YtibcbaghgpemfaaGreatDoorGLow
import Derived.Laws.ResultCell
namespace Go.Proofs.YtibcbaghgpemfaaGreatDoor
open Go.RowKit Syn Fr
theorem number_zero (x : List UInt8) : (number x).2 = 0 ∨ ((number x).1 = 0 ∧ ((number x).2 = 2 ∨ (number x).2 = 5)):=by
 unfold number
 split
 ·split
  ·right; exact ⟨rfl,.inr rfl⟩
  ·left; rfl
 ·right; exact ⟨rfl,.inl rfl⟩
theorem frnumber_any (s : ByteArray) (w : World) (hs : s.size ≤ maxLen) :
  Calls Tryz.prog 84 #[.string s] w fun e w' => e = .returned (.tuple #[.int .i64 ((number (bs s)).1 : Int),.bool (decide ((number (bs s)).2 = 0))]) ∧ ∃ n,w' = w.drewN n:=by
 have hN:=fun w => number_any s w hs
 rcases number_zero (bs s) with h | ⟨-,h | h⟩
 ·rw [h] at hN ⊢
  generalize ((number (bs s)).1 : Int) = a at *; rw [show errV 0 = .nilIface from rfl] at hN
  replace hN:=Hj hN; go_enter Tryz.func84,Tryz.ntmps84
  go_wp2_with fail
  refine (hN.out _).mono ?_
  rintro e w' ⟨rfl,rfl⟩
  go_wp2_with fail
  go_quiet (fail)
  go_wp2; go_ret2
  exact ⟨rfl,nq,rfl⟩
 ·rw [h] at hN ⊢
  generalize ((number (bs s)).1 : Int) = a at *; rw [show errV 2 = .iface 76 (.int .i64 2) from rfl] at hN
  replace hN:=Hj hN; go_enter Tryz.func84,Tryz.ntmps84
  go_wp2_with fail
  refine (hN.out _).mono ?_
  rintro e w' ⟨rfl,rfl⟩
  go_wp2_with fail
  go_quiet (fail)
  go_wp2; go_ret2
  exact ⟨rfl,nq,rfl⟩
 ·rw [h] at hN ⊢
  generalize ((number (bs s)).1 : Int) = a at *; rw [show errV 5 = .iface 76 (.int .i64 5) from rfl] at hN
  replace hN:=Hj hN; go_enter Tryz.func84,Tryz.ntmps84
  go_wp2_with fail
  refine (hN.out _).mono ?_
  rintro e w' ⟨rfl,rfl⟩
  go_wp2_with fail
  go_quiet (fail)
  go_wp2; go_ret2
  exact ⟨rfl,nq,rfl⟩
def refNum (x : List UInt8) : Int:=if (number x).2 = 0 then ((number x).1 : Int) else -1
theorem refNum_no {x : List UInt8} (h : digits x = false) : refNum x = -1:=by unfold refNum number; rw [h]; rfl
theorem refNum_long {x : List UInt8} (h : 15 < x.length) : refNum x = -1:=by
 have e : (number x).2 ≠ 0:=by
  unfold number
  cases digits x
  ·rw [if_neg (by decide)]; decide
  ·rw [if_pos rfl,if_pos h]; decide
 unfold refNum; rw [if_neg e]
theorem refNum_yes {x : List UInt8} (h : digits x = true) (hl : x.length ≤ 15) : refNum x = (valGo 0 x : Int):=by
 have e : number x = (valGo 0 x,0):=by unfold number; rw [if_pos h,if_neg (by omega)]
 unfold refNum; rw [e]; rfl
set_option maxHeartbeats 2000000 in
theorem refnum_any (s : ByteArray) (w : World) (hs : s.size ≤ maxLen) :
  Calls Tryz.prog 198 #[.string s] w fun e w' => e = .returned (.int .i64 (refNum (bs s))) ∧ w' = w:=by
 unfold maxLen at hs
 go_enter Tryz.func198,Tryz.ntmps198
 go_wp2; go_loop [3,4] (fun n i => ∃ k m : Nat,i = .int .i64 (k : Int) ∧ n = .int .i64 (m : Int) ∧ k ≤ s.size ∧ m < 1000000000000000 ∧ Hid (((bs s).take k).all dig = true) ∧ Hid (m = valGo 0 ((bs s).take (min k 15)))) (fun _ i => s.size - (intOf i).toNat)
 case atStart => exact ⟨0,0,rfl,rfl,by omega,by omega,rfl,by show 0 = valGo 0 (List.take (min 0 15) _); simp; rfl⟩
 case round =>
  obtain ⟨k,m,rfl,rfl,hk,hm,ha,hv⟩:=hrel
  by_cases hlt : k < s.size
  ·have no : dig s[k] = false → Hid (refNum (bs s) = -1):=fun h => by
    refine Hj (refNum_no ?_)
    unfold digits; rw [all_fail hlt h]; rfl
   by_cases h1 : s[k].toNat < 48
   ·have e:=no (by unfold dig; simp; omega)
    clear no; go_wp2; go_ret; exact ⟨by rw [e.out]; rfl,rfl⟩
   ·by_cases h2 : 57 < s[k].toNat
    ·have e:=no (by unfold dig; simp; omega)
     clear no; go_wp2; go_ret; exact ⟨by rw [e.out]; rfl,rfl⟩
    ·have hd : dig s[k] = true:=by unfold dig; simp; omega
     have ha2 : Hid (((bs s).take (k + 1)).all dig = true):=Hj (by rw [take_at s k hlt,List.all_append,ha.out]; simp [hd])
     clear no; by_cases h15 : k < 15
     ·have hv2 : 10 * m + (s[k].toNat - 48) = valGo 0 ((bs s).take (min (k + 1) 15)):=by
       have:=hv.out
       rw [show min k 15 = k by omega] at this
       rw [show min (k + 1) 15 = k + 1 by omega,val_take s k hlt,← this]
      have hbd : 10 * m + (s[k].toNat - 48) < 1000000000000000:=by
       rw [hv2,show min (k + 1) 15 = k + 1 by omega]
       exact val_lt _ ha2.out (by rw [List.length_take]; omega)
      replace hv2:=Hj hv2; go_wp2; go_round
      case rel => exact ⟨k + 1,10 * m + (s[k].toNat - 48),by go_num,by congr 1; omega,by omega,hbd,ha2,hv2⟩
      case measure => simp [intOf]; omega
     ·have hv2 : Hid (m = valGo 0 ((bs s).take (min (k + 1) 15))):=Hj (by
       have:=hv.out
       rw [show min k 15 = 15 by omega] at this
       rw [show min (k + 1) 15 = 15 by omega]; exact this)
      go_wp2; go_round
      case rel => exact ⟨k + 1,m,by go_num,rfl,by omega,hm,ha2,hv2⟩
      case measure => simp [intOf]; omega
  ·obtain rfl : k = s.size:=by omega
   have ha2:=ha.out; rw [take_all] at ha2
   by_cases h0 : s.size < 1
   ·have e : Hid (refNum (bs s) = -1):=Hj (refNum_no (by
     have : bs s = []:=List.eq_nil_of_length_eq_zero (by rw [bs_length]; omega)
     rw [this]; rfl))
    go_wp2; go_ret; exact ⟨by rw [e.out]; rfl,rfl⟩
   ·by_cases h15 : 15 < s.size
    ·have e : Hid (refNum (bs s) = -1):=Hj (refNum_long (by rw [bs_length]; exact h15))
     go_wp2; go_ret; exact ⟨by rw [e.out]; rfl,rfl⟩
    ·have e : Hid (refNum (bs s) = (m : Int)):=Hj (by
      rw [hv.out,show min s.size 15 = s.size by omega,take_all]
      refine refNum_yes ?_ (by rw [bs_length]; omega)
      unfold digits; rw [ha2]
      cases hb : bs s with
      | nil => have:=bs_length s; rw [hb] at this; simp at this; omega
      | cons a r => rfl)
     clear ha2; go_wp2; go_ret; exact ⟨by rw [e.out]; rfl,rfl⟩
end Go.Proofs.YtibcbaghgpemfaaGreatDoor
namespace Go.Proofs.YtibcbaghgpemfaaGreatDoor
open Go.RowKit Syn Fr
theorem push_strs {ops : Array Oper} {rest : List Oper} {o : Oper} {a : Act} {Q : Exit → Act → World → Prop} {w : World} (s x : Operand)
  (hgd : o.guard = none) (ho : o.op = .call { callee:=.builtin .append,args:=#[s,x],argTypes:=#[22,22] })
  {B n m c b : Nat} {v : Value} {xs news : List Value} (hs : a.eval s = v) (hown : Own w B 9 1 v n xs) (hx : a.eval x = .slice (some ⟨b,0,none⟩) m c) (hl : news.length = m)
  (hnews : ∀ j u,news[j]? = some u → w.cell? ⟨b,j,none⟩ = some u) (h1 : ∀ u ∈ news,u.oneCell' = true) (hn : n + m ≤ 10000000000) (hbase : B ≤ w.heap.size)
  (h : ∀ v' w',Own w' B 9 1 v' (n + m) (xs ++ news) → Below B w w' → wpList Tryz.prog ops Q rest (a.put o.dst v') w') : wpList Tryz.prog ops Q (o :: rest) a w:=by
 refine step_push 22 9 (.string ⟨#[]⟩) 1 16 s x hgd ho Tryz.underlying22 infoStr rfl (by decide) (by decide) hs hown hx (news:=news) (by omega) ?_ h1 hn hbase ?_
 ·intro j u hj
  have hadd : (⟨b,0,none⟩ : Addr).add j = ⟨b,j,none⟩:=by unfold Addr.add; split <;> simp_all
  rw [hadd]; exact hnews j u hj
 ·intro v' w' ho' hb _
  exact h v' w' ho' hb
theorem list_len {x : List UInt8} {l : List (List UInt8)} (h : Syn.list x = some l) : l.length ≤ x.length + 1:=by
 unfold Syn.list at h
 cases hp : parts 44 x with
 | none => rw [hp] at h; cases h
 | some p =>
  rw [hp] at h
  have e : full p = l:=by injection h
  have h1:=parts_len (s:=str x) (by rw [bs_str]; exact hp)
  rw [str_size] at h1
  rw [← e]; exact Nat.le_trans (List.length_filter_le _ _) h1
theorem strs_one (l : List Bytes) : ∀ u ∈ strs l,u.oneCell' = true:=by
 intro u hu; unfold strs at hu
 rw [List.mem_map] at hu
 obtain ⟨x,-,rfl⟩:=hu
 rfl
theorem strs_append (a b : List Bytes) : strs (a ++ b) = strs a ++ strs b:=by simp [strs]
theorem Own.two {w : World} {B n : Nat} {t : TypeId} {v : Value} {xs : List Value} (h : Own w B t 1 v n xs) :
  (v = .slice none 0 0 ∧ n = 0 ∧ xs = []) ∨ (∃ b c,v = .slice (some ⟨b,0,none⟩) n c ∧ n ≤ c ∧ xs.length = n ∧ b < w.heap.size ∧ ∀ j u,xs[j]? = some u → w.cell? ⟨b,j,none⟩ = some u):=by
 have hl:=h.1; rcases id h with ⟨-,⟨rfl,rfl⟩ | ⟨g,cap,cur,rfl,hg,hh,hnc,hr⟩⟩
 ·left; exact ⟨rfl,rfl,List.eq_nil_of_length_eq_zero (by simpa using hl)⟩
 ·right
  refine ⟨g,cap,rfl,hnc,by simpa using hl,?_,fun j u hu => ?_⟩
  ·rcases Nat.lt_or_ge g w.heap.size with h | h
   ·exact h
   ·rw [Array.getElem?_eq_none h] at hh; cases hh
  ·have:=World.ownsRow.cells h (g:=g) rfl j u hu
   have e : (⟨g,0,none⟩ : Addr).add j = ⟨g,j,none⟩:=by unfold Addr.add; split <;> simp_all
   rwa [e] at this
set_option maxRecDepth 100000 in
set_option maxHeartbeats 8000000 in
theorem elements_any (L : List (Bytes × Bytes)) (name : Bytes) (v : Value) (w : World) (hF : Few L) (hn : name.length ≤ 1000) (hR : Rd w 2 v L.length (prs L)) :
  Calls Tryz.prog 123 #[v,.string (str name)] w fun e w' => ∃ o,e = .returned (.tuple #[o,.int .i64 ((allV L name).length : Int),.bool (elemsGo [] (allV L name)).isSome]) ∧ PartsOut w' w.heap.size o (elemsGo [] (allV L name)) ∧ Below w.heap.size w w':=by
 have hA : ∀ w,Rd w 2 v L.length (prs L) → Calls Tryz.prog 62 #[v,.string (str name)] w fun e w' => ∃ o,e = .returned o ∧ Own w' w.heap.size 9 1 o (allV L name).length (strs (allV L name)) ∧ Below w.heap.size w w':=fun w h => all_anyF L name v w hF hn h
 have hvl : ∀ x ∈ allV L name,x.length ≤ 5000:=fun x hx => by
  obtain ⟨p,hp,rfl⟩:=allV_mem hx
  exact (hF.short p hp).2
 have hml : (allV L name).length ≤ 100:=Nat.le_trans (allV_length L name) hF.len
 clear hF; generalize allV L name = V at *; replace hA:=Hj hA; replace hvl:=Hj hvl; obtain ⟨A,cap,rfl,hcap,-,-⟩:=id hR; replace hR:=Hj hR; go_enter Tryz.func123,Tryz.ntmps123
 go_wp2_with fail
 refine (hA.out _ hR.out).mono ?_
 rintro e w1 ⟨vs,rfl,hvs,hb1⟩
 have hV : Rd w1 1 vs V.length (strs V):=Rd.own hvs
 obtain ⟨A1,c1,rfl,hc1,-,-⟩:=id hV; replace hV:=Hj hV; replace hb1:=Hj hb1; clear hvs; go_wp2; go_loopw [7,18] (fun o i wr => ∃ (k : Nat) (acc : List Bytes),i = .int .i64 (k : Int) ∧ k ≤ V.length ∧ acc.length ≤ 5001 * k ∧ Hid (elemsGo [] V = elemsGo acc (V.drop k)) ∧ Hid (Own wr w1.heap.size 9 1 o acc.length (strs acc)) ∧ Hid (Below w1.heap.size w1 wr)) (fun _ i _ => V.length - (intOf i).toNat)
 case atStart => exact ⟨0,[],rfl,by omega,by simp,rfl,own_nil _ _ _ _,Below.refl _ _⟩
 case round =>
  obtain ⟨k,acc,rfl,hk,hac,hg,ho,hB⟩:=hrel
  have hBw:=hB.out.size; by_cases hlt : k < V.length
  ·obtain ⟨A',cap',e',-,-,r'⟩:=hV.out.below hB.out
   cases e'; obtain ⟨b1,o1,rfl,hl1,x1⟩:=r' (by omega)
   have d1 : wr.cell? ⟨b1,o1 + k,none⟩ = some (.string (str V[k])):=x1 k _ (strs_at hlt)
   have hst:=hg.out.trans ((congrArg (elemsGo acc) (List.drop_eq_getElem_cons hlt)).trans (elemsGo_cons acc V[k] (V.drop (k + 1)))); have hyl:=hvl.out V[k] (List.getElem_mem hlt); clear x1 r' hg; generalize V[k] = y at *; have hli : ∀ w,Calls Tryz.prog 158 #[.string (str y)] w fun e w' => ∃ v,e = .returned (.tuple #[v,errV (errO (Syn.list y))]) ∧ PartsOut w' w.heap.size v (Syn.list y) ∧ Below w.heap.size w w':=fun w => list_any (str y) w (by rw [str_size]; omega)
   cases hly : Syn.list y with
   | none =>
    rw [hly] at hli hst
    have hf : Hid (elemsGo [] V = none):=Hj hst
    clear hst; replace hli:=Hj hli; go_wp2_with fail
    refine (hli.out _).mono ?_
    rintro e w2 ⟨v2,rfl,-,hb2⟩
    have hB2:=Hj (Below.next hb1.out hb1.out.size (hB.out.trans (hb2.mono hBw))); clear hb2; rw [show errV (errO (none : Option (List (List UInt8)))) = .iface 76 (.int .i64 2) from rfl]
    go_wp2; go_ret3
    exact ⟨_,by rw [hf.out]; rfl,by rw [hf.out]; rfl,hB2.out⟩
   | some l =>
    have hll:=list_len hly; rw [hly] at hli hst
    replace hst:=Hj hst; replace hly:=Hj hly; replace hli:=Hj hli; go_wp2_with fail
    refine (hli.out _).mono ?_
    rintro e w2 ⟨v2,rfl,hv2,hb2⟩
    have hB2:=Hj (hB.out.trans (hb2.mono hBw)); have ho2:=Hj (own_below ho.out hb2); have hBw2:=hB2.out.size; clear hb2 d1; rw [show errV (errO (some l)) = .nilIface from rfl]
    rcases Own.two (show Own w2 wr.heap.size 9 1 v2 l.length (strs l) from hv2) with ⟨rfl,hn0,-⟩ | ⟨b2,c2,rfl,-,hxl,hbl,hcell⟩
    ·have hl0 : l = []:=List.eq_nil_of_length_eq_zero hn0
     subst hl0; clear hv2 hn0; rw [List.append_nil] at hst
     rcases Own.two ho2.out with ⟨rfl,ha0,-⟩ | ⟨b4,c4,rfl,hc4,-,-,-⟩
     ·go_wp2
      go_roundw
      case rel => exact ⟨k + 1,acc,by go_num,by omega,by omega,hst,ho2,hB2⟩
      case measure => simp [intOf]; omega
     ·go_wp2
      go_roundw
      case rel => exact ⟨k + 1,acc,by go_num,by omega,by omega,hst,ho2,hB2⟩
      case measure => simp [intOf]; omega
    ·replace hcell:=Hj hcell
     clear hv2; go_wp2_with (at_builtin; refine push_strs _ _ rfl rfl rfl ho2.out rfl hxl hcell.out (strs_one l) (by omega) hBw2 ?_; intro v3 w3 ho3 hb3; replace ho3:=Hj ho3; have hB3:=Hj (hB2.out.trans hb3); clear hb3)
     go_roundw
     case rel => exact ⟨k + 1,acc ++ l,by go_num,by omega,by rw [List.length_append]; omega,hst,Hj (by rw [strs_append,List.length_append]; exact ho3.out),hB3⟩
     case measure => simp [intOf]; omega
  ·obtain rfl : k = V.length:=by omega
   have hf : Hid (elemsGo [] V = some acc):=Hj (by rw [hg.out,List.drop_length]; rfl)
   have hown:=Hj (own_mono ho.out hb1.out.size); have hBf:=Hj (Below.next hb1.out hb1.out.size hB.out); go_wp2; go_ret3
   exact ⟨_,by rw [hf.out]; rfl,by rw [hf.out]; exact hown.out,hBf.out⟩
set_option maxRecDepth 100000 in
set_option maxHeartbeats 8000000 in
theorem relements_any (L : List (Bytes × Bytes)) (name : Bytes) (v : Value) (w : World) (hF : Few L) (hn : name.length ≤ 1000) (hR : Rd w 2 v L.length (prs L)) :
  Calls Tryz.prog 196 #[v,.string (str name)] w fun e w' => ∃ o,e = .returned (.tuple #[o,.bool (elemsGo [] (allV L name)).isSome]) ∧ PartsOut w' w.heap.size o (elemsGo [] (allV L name)) ∧ Below w.heap.size w w':=by
 have hA : ∀ w,Rd w 2 v L.length (prs L) → Calls Tryz.prog 197 #[v,.string (str name)] w fun e w' => ∃ o,e = .returned o ∧ Own w' w.heap.size 9 1 o (allV L name).length (strs (allV L name)) ∧ Below w.heap.size w w':=fun w h => rall_anyF L name v w hF hn h
 have hvl : ∀ x ∈ allV L name,x.length ≤ 5000:=fun x hx => by
  obtain ⟨p,hp,rfl⟩:=allV_mem hx
  exact (hF.short p hp).2
 have hml : (allV L name).length ≤ 100:=Nat.le_trans (allV_length L name) hF.len
 clear hF; generalize allV L name = V at *; replace hA:=Hj hA; replace hvl:=Hj hvl; obtain ⟨A,cap,rfl,hcap,-,-⟩:=id hR; replace hR:=Hj hR; go_enter Tryz.func196,Tryz.ntmps196
 go_wp2_with fail
 refine (hA.out _ hR.out).mono ?_
 rintro e w1 ⟨vs,rfl,hvs,hb1⟩
 have hV : Rd w1 1 vs V.length (strs V):=Rd.own hvs
 obtain ⟨A1,c1,rfl,hc1,-,-⟩:=id hV; replace hV:=Hj hV; replace hb1:=Hj hb1; clear hvs; go_wp2; go_loopw [6,8] (fun o i wr => ∃ (k : Nat) (acc : List Bytes),i = .int .i64 (k : Int) ∧ k ≤ V.length ∧ acc.length ≤ 5001 * k ∧ Hid (elemsGo [] V = elemsGo acc (V.drop k)) ∧ Hid (Own wr w1.heap.size 9 1 o acc.length (strs acc)) ∧ Hid (Below w1.heap.size w1 wr)) (fun _ i _ => V.length - (intOf i).toNat)
 case atStart => exact ⟨0,[],rfl,by omega,by simp,rfl,own_nil _ _ _ _,Below.refl _ _⟩
 case round =>
  obtain ⟨k,acc,rfl,hk,hac,hg,ho,hB⟩:=hrel
  have hBw:=hB.out.size; by_cases hlt : k < V.length
  ·obtain ⟨A',cap',e',-,-,r'⟩:=hV.out.below hB.out
   cases e'; obtain ⟨b1,o1,rfl,hl1,x1⟩:=r' (by omega)
   have d1 : wr.cell? ⟨b1,o1 + k,none⟩ = some (.string (str V[k])):=x1 k _ (strs_at hlt)
   have hst:=hg.out.trans ((congrArg (elemsGo acc) (List.drop_eq_getElem_cons hlt)).trans (elemsGo_cons acc V[k] (V.drop (k + 1)))); have hyl:=hvl.out V[k] (List.getElem_mem hlt); clear x1 r' hg; generalize V[k] = y at *; have hli : ∀ w,Calls Tryz.prog 209 #[.string (str y)] w fun e w' => ∃ v,e = .returned (.tuple #[v,.bool (Syn.list y).isSome]) ∧ PartsOut w' w.heap.size v (Syn.list y) ∧ Below w.heap.size w w':=fun w => rlist_any (str y) w (by rw [str_size]; omega)
   cases hly : Syn.list y with
   | none =>
    rw [hly] at hli hst
    have hf : Hid (elemsGo [] V = none):=Hj hst
    clear hst; replace hli:=Hj hli; go_wp2_with fail
    refine (hli.out _).mono ?_
    rintro e w2 ⟨v2,rfl,-,hb2⟩
    have hB2:=Hj (Below.next hb1.out hb1.out.size (hB.out.trans (hb2.mono hBw))); clear hb2; rw [show (none : Option (List (List UInt8))).isSome = false from rfl]
    go_wp2; go_ret2
    exact ⟨_,by rw [hf.out]; rfl,by rw [hf.out]; rfl,hB2.out⟩
   | some l =>
    have hll:=list_len hly; rw [hly] at hli hst
    replace hst:=Hj hst; replace hly:=Hj hly; replace hli:=Hj hli; go_wp2_with fail
    refine (hli.out _).mono ?_
    rintro e w2 ⟨v2,rfl,hv2,hb2⟩
    have hB2:=Hj (hB.out.trans (hb2.mono hBw)); have ho2:=Hj (own_below ho.out hb2); have hBw2:=hB2.out.size; clear hb2 d1; rw [show (some l).isSome = true from rfl]
    rcases Own.two (show Own w2 wr.heap.size 9 1 v2 l.length (strs l) from hv2) with ⟨rfl,hn0,-⟩ | ⟨b2,c2,rfl,-,hxl,hbl,hcell⟩
    ·have hl0 : l = []:=List.eq_nil_of_length_eq_zero hn0
     subst hl0; clear hv2 hn0; rw [List.append_nil] at hst
     rcases Own.two ho2.out with ⟨rfl,ha0,-⟩ | ⟨b4,c4,rfl,hc4,-,-,-⟩
     ·go_wp2
      go_roundw
      case rel => exact ⟨k + 1,acc,by go_num,by omega,by omega,hst,ho2,hB2⟩
      case measure => simp [intOf]; omega
     ·go_wp2
      go_roundw
      case rel => exact ⟨k + 1,acc,by go_num,by omega,by omega,hst,ho2,hB2⟩
      case measure => simp [intOf]; omega
    ·replace hcell:=Hj hcell
     clear hv2; go_wp2_with (at_builtin; refine push_strs _ _ rfl rfl rfl ho2.out rfl hxl hcell.out (strs_one l) (by omega) hBw2 ?_; intro v3 w3 ho3 hb3; replace ho3:=Hj ho3; have hB3:=Hj (hB2.out.trans hb3); clear hb3)
     go_roundw
     case rel => exact ⟨k + 1,acc ++ l,by go_num,by omega,by rw [List.length_append]; omega,hst,Hj (by rw [strs_append,List.length_append]; exact ho3.out),hB3⟩
     case measure => simp [intOf]; omega
  ·obtain rfl : k = V.length:=by omega
   have hf : Hid (elemsGo [] V = some acc):=Hj (by rw [hg.out,List.drop_length]; rfl)
   have hown:=Hj (own_mono ho.out hb1.out.size); have hBf:=Hj (Below.next hb1.out hb1.out.size hB.out); go_wp2; go_ret2
   exact ⟨_,by rw [hf.out]; rfl,by rw [hf.out]; exact hown.out,hBf.out⟩
end Go.Proofs.YtibcbaghgpemfaaGreatDoor
namespace Go.Proofs.YtibcbaghgpemfaaGreatDoor
open Go.RowKit Syn Fr
def frameV (o : Out) : Value:=.agg #[.int .i64 (o.1.1 : Int),.int .i64 (o.1.2 : Int)]
theorem isEmpty_pos {α : Type} {l : List α} (h : 0 < l.length) : l.isEmpty = false:=by cases l with | nil => simp at h | cons => rfl
theorem isEmpty_zero {α : Type} {l : List α} (h : ¬ 0 < l.length) : l = []:=List.eq_nil_of_length_eq_zero (by omega)
section
variable {K : Nat} {L : List (Bytes × Bytes)}
theorem frame_both (h1 : 0 < (allV L cl).length) (h2 : 0 < (allV L te).length) : frame K L = ((0,0),31):=by
 unfold frame; rw [isEmpty_pos h1,isEmpty_pos h2]; rfl
theorem frame_te (h1 : ¬ 0 < (allV L cl).length) (h2 : 0 < (allV L te).length) : frame K L = frameC (elemsGo [] (allV L te)):=by
 unfold frame; rw [isEmpty_zero h1,isEmpty_pos h2]; rfl
theorem frame_none (h1 : ¬ 0 < (allV L cl).length) (h2 : ¬ 0 < (allV L te).length) : frame K L = ((K,0),0):=by
 unfold frame; rw [isEmpty_zero h1,isEmpty_zero h2]; rfl
theorem frame_cl (h1 : 0 < (allV L cl).length) (h2 : ¬ 0 < (allV L te).length) : frame K L = frameL (elemsGo [] (allV L cl)):=by
 unfold frame; rw [isEmpty_pos h1,isEmpty_zero h2]; rfl
end
theorem frameC_long {l : List Bytes} (h : l.length ≠ 1) : frameC (some l) = ((0,0),32):=by
 match l,h with
 | [],_ => rfl
 | [_],h => exact absurd rfl h
 | _ :: _ :: _,_ => rfl
theorem all_eq_take {x : Bytes} {l : List Bytes} {k : Nat} (h : k < l.length) (ha : (l.take k).all (· == x) = true) (hx : l[k] = x) : (l.take (k + 1)).all (· == x) = true:=by
 rw [List.take_succ_eq_append_getElem h,List.all_append,ha,hx]; simp
theorem not_all {x : Bytes} {l : List Bytes} {k : Nat} (h : k < l.length) (hx : l[k] ≠ x) : l.all (· == x) = false:=by
 rw [List.all_eq_false]; exact ⟨l[k],List.getElem_mem h,by simpa using hx⟩
theorem frameL_cons (x : Bytes) (r : List Bytes) : frameL (some (x :: r)) = if (x :: r).all (· == x) then lengthOf x else ((0,0),30):=by
 rw [List.all_cons,beq_self_eq_true,Bool.true_and]; rfl
theorem list_most {x : Bytes} {l : List Bytes} (h : Syn.list x = some l) : ∀ y ∈ l,y.length ≤ x.length:=by
 unfold Syn.list at h
 cases hp : parts 44 x with
 | none => rw [hp] at h; cases h
 | some p =>
  rw [hp] at h
  have e : full p = l:=by injection h
  intro y hy; rw [← e] at hy
  exact (parts_most hp).2 y (List.mem_filter.1 (show y ∈ p.filter _ from hy)).1
theorem elems_most {m : Nat} : ∀ (V acc l : List Bytes),elemsGo acc V = some l → (∀ a ∈ acc,a.length ≤ m) → (∀ v ∈ V,v.length ≤ m) → ∀ x ∈ l,x.length ≤ m
 | [],acc,l,h,ha,_ => by rw [elemsGo] at h; cases h; exact ha
 | v :: r,acc,l,h,ha,hv => by
  rw [elemsGo_cons] at h
  split at h
  ·cases h
  ·next l2 hl =>
   refine elems_most r _ l h (fun a hm => ?_) (fun x hx => hv x (by simp [hx]))
   rw [List.mem_append] at hm
   rcases hm with hm | hm
   ·exact ha a hm
   ·exact Nat.le_trans (list_most hl a hm) (hv v (by simp))
theorem elems_len : ∀ (V acc l : List Bytes),elemsGo acc V = some l → (∀ v ∈ V,v.length ≤ 5000) → l.length ≤ acc.length + 5001 * V.length
 | [],acc,l,h,_ => by rw [elemsGo] at h; cases h; simp
 | v :: r,acc,l,h,hv => by
  rw [elemsGo_cons] at h
  split at h
  ·cases h
  ·next l2 hl =>
   have h1:=elems_len r _ l h (fun x hx => hv x (by simp [hx])); have h2:=list_len hl; have h3:=hv v (by simp); rw [List.length_append] at h1
   rw [List.length_cons]; omega
theorem elem_few {L : List (Bytes × Bytes)} {name : Bytes} {l : List Bytes} (hF : Few L) (h : elemsGo [] (allV L name) = some l) : l.length ≤ 600000:=by
 have h1:=elems_len _ _ _ h fun v hv => by
  obtain ⟨p,hp,rfl⟩:=allV_mem hv
  exact (hF.short p hp).2
 have h2:=allV_length L name; have h3:=hF.len; simp at h1; omega
theorem two_below' {w w1 : World} {G : Nat} (h : Below G w w1) (a b : Value) : Below G w ((w1.setCell ⟨G,0,none⟩ a).setCell ⟨G,1,none⟩ b) :=
 (h.setCell (p:=⟨G,0,none⟩) (Nat.le_refl _) a).setCell (p:=⟨G,1,none⟩) (Nat.le_refl _) b
theorem elem_short {L : List (Bytes × Bytes)} {name : Bytes} {l : List Bytes} (hF : Few L) (h : elemsGo [] (allV L name) = some l) : ∀ x ∈ l,x.length ≤ 5000 :=
 elems_most _ _ _ h (by simp) fun v hv => by
  obtain ⟨p,hp,rfl⟩:=allV_mem hv
  exact (hF.short p hp).2
set_option maxRecDepth 100000 in
set_option maxHeartbeats 16000000 in
theorem of_frame (L : List (Bytes × Bytes)) (v : Value) (w : World) (hF : Few L) (hR : Rd w 2 v L.length (prs L)) :
  Calls Tryz.prog 93 #[v] w fun e w' => e = .returned (.tuple #[frameV (frame 4 L),errV (frame 4 L).2]) ∧ Below w.heap.size w w':=by
 obtain ⟨G,hG⟩ : ∃ G,w.heap.size = G:=⟨_,rfl⟩
 have hE1 : ∀ w,Rd w 2 v L.length (prs L) → Calls Tryz.prog 123 #[v,.string ⟨#[99,111,110,116,101,110,116,45,108,101,110,103,116,104]⟩] w fun e w' => ∃ o,e = .returned (.tuple #[o,.int .i64 ((allV L cl).length : Int),.bool (elemsGo [] (allV L cl)).isSome]) ∧ PartsOut w' w.heap.size o (elemsGo [] (allV L cl)) ∧ Below w.heap.size w w':=fun w h => elements_any L cl v w hF (by decide) h
 have hE2 : ∀ w,Rd w 2 v L.length (prs L) → Calls Tryz.prog 123 #[v,.string ⟨#[116,114,97,110,115,102,101,114,45,101,110,99,111,100,105,110,103]⟩] w fun e w' => ∃ o,e = .returned (.tuple #[o,.int .i64 ((allV L te).length : Int),.bool (elemsGo [] (allV L te)).isSome]) ∧ PartsOut w' w.heap.size o (elemsGo [] (allV L te)) ∧ Below w.heap.size w w':=fun w h => elements_any L te v w hF (by decide) h
 have hes : ∀ name l,elemsGo [] (allV L name) = some l → (∀ x ∈ l,x.length ≤ 5000) ∧ l.length ≤ 600000:=fun name l h => ⟨elem_short hF h,elem_few hF h⟩
 have hff:=frame_both (K:=4) (L:=L); have hfc:=frame_te (K:=4) (L:=L); have hfn:=frame_none (K:=4) (L:=L); have hfl:=frame_cl (K:=4) (L:=L); have hs1:=hes cl; have hs2:=hes te; clear hes; have hm1 : (allV L cl).length ≤ 100:=Nat.le_trans (allV_length L cl) hF.len
 have hm2 : (allV L te).length ≤ 100:=Nat.le_trans (allV_length L te) hF.len
 generalize frame 4 L = fr at *; generalize allV L cl = V1 at *; generalize allV L te = V2 at *; obtain ⟨A,cap,rfl,hcap,-,-⟩:=id hR; replace hE1:=Hj hE1; replace hE2:=Hj hE2; replace hs1:=Hj hs1; replace hs2:=Hj hs2; replace hR:=Hj (hR.below ((Below.refl w.heap.size w).alloc (Nat.le_refl _) (.cells #[.int .i64 0,.int .i64 0] 103))); go_enter Tryz.func93,Tryz.ntmps93
 go_wp2_with fail
 have hK:=Blk.new w 103 #[.int .i64 0,.int .i64 0]; rw [hG] at hK
 have hb0:=(Below.refl G w).alloc (by omega) (.cells #[.int .i64 0,.int .i64 0] 103); generalize w.alloc (.cells #[.int .i64 0,.int .i64 0] 103) = w0 at *; refine (hE1.out _ hR.out).mono ?_
 rintro e w1 ⟨o1,rfl,hv1,hb1⟩
 have hR1:=Hj (hR.out.below hb1); have hb01:=hb0.trans (hb1.mono (by have:=hK.lt; omega))
 have hK1:=hK.below hb1; replace hb01:=Hj hb01; replace hK1:=Hj hK1; replace hv1:=Hj hv1; clear hb1 hK hb0; go_wp2_with fail
 refine (hE2.out _ hR1.out).mono ?_
 rintro e w2 ⟨o2,rfl,hv2,hb2⟩
 have hb02:=Hj (hb01.out.trans (hb2.mono (by have:=hK1.out.lt; omega)))
 have hK2:=hK1.out.below hb2; have c0 : w2.cell? ⟨G,0,none⟩ = some (.int .i64 0):=hK2.cell 0
 have c1 : w2.cell? ⟨G,1,none⟩ = some (.int .i64 0):=hK2.cell 1
 have f0:=hK2.frozen 0; have f1:=hK2.frozen 1; have hV1:=fun l (h : elemsGo [] V1 = some l) => (Rd.own (h ▸ hv1.out : PartsOut w1 w0.heap.size o1 (some l)) : Rd w1 1 o1 l.length (strs l)).below hb2
 replace hV1:=Hj hV1; replace hv2:=Hj hv2; replace hK2:=Hj hK2; clear hb2 hK1 hb01 hv1 hR hR1; by_cases n1 : 0 < V1.length
 ·by_cases n2 : 0 < V2.length
  ·have hf:=Hj (hff n1 n2)
   clear hff hfc hfn hfl; go_wp2; exact ret_blk rfl rfl rfl (hK2.out.two _ _) Tryz.underlying103 rfl (by kernel_rfl) ⟨by rw [hf.out]; rfl,two_below hG hb02.out _ _⟩
  ·have hf:=Hj (hfl n1 n2)
   have hn0 : ((V1.length : Int) == 0) = false:=beq_false_of_ne (by omega)
   clear hff hfc hfn hfl; cases hl : elemsGo [] V1 with
   | none =>
    have hf2 : Hid (fr = ((0,0),30)):=Hj (by rw [hf.out,hl]; rfl)
    clear hl; go_wp2; exact ret_blk rfl rfl rfl (hK2.out.two _ _) Tryz.underlying103 rfl (by kernel_rfl) ⟨by rw [hf2.out]; rfl,two_below hG hb02.out _ _⟩
   | some l =>
    have hRl:=hV1.out l hl; obtain ⟨hsl,hcn⟩:=hs1.out l hl
    cases l with
    | nil =>
     obtain ⟨A1,q1,rfl,-,-,-⟩:=hRl
     have hf2 : Hid (fr = ((0,0),30)):=Hj (by rw [hf.out,hl]; rfl)
     clear hl; go_wp2; exact ret_blk rfl rfl rfl (hK2.out.two _ _) Tryz.underlying103 rfl (by kernel_rfl) ⟨by rw [hf2.out]; rfl,two_below hG hb02.out _ _⟩
    | cons x r =>
     have hf2 : Hid (fr = if (x :: r).all (· == x) then lengthOf x else ((0,0),30)):=Hj (by rw [hf.out,hl,frameL_cons])
     have hx5:=hsl x (by simp); obtain ⟨l,hlx⟩ : ∃ l,l = x :: r:=⟨_,rfl⟩
     have hl0 : l[0]? = some x:=by rw [hlx]; rfl
     have hlp : 0 < l.length:=by rw [hlx]; simp
     rw [← hlx] at hRl hf2 hcn
     clear hl hsl hlx hf; obtain ⟨A1,q1,rfl,hq1,-,hcell⟩:=hRl
     obtain ⟨b1,o3,rfl,-,x1⟩:=hcell hlp
     have d0 : w2.cell? ⟨b1,o3,none⟩ = some (.string (str x)):=by
      have:=x1 0 (.string (str x)) (by unfold strs; rw [List.getElem?_map,hl0]; rfl)
      exact this
     have hlz : ((l.length : Int) == 0) = false:=beq_false_of_ne (by omega)
     replace x1:=Hj x1; clear hcell hl0; go_wp2; go_loop [11,67] (fun _ i => ∃ k : Nat,i = .int .i64 (k : Int) ∧ k ≤ l.length ∧ Hid ((l.take k).all (· == x) = true)) (fun _ i => l.length - (intOf i).toNat)
     case atStart => exact ⟨0,rfl,by omega,rfl⟩
     case round =>
      obtain ⟨k,rfl,hk,ha⟩:=hrel
      by_cases hlt : k < l.length
      ·have d1 : w2.cell? ⟨b1,o3 + k,none⟩ = some (.string (str l[k])):=x1.out k _ (strs_at hlt)
       by_cases hx : l[k] = x
       ·have hn:=Hj (all_eq_take hlt ha.out hx)
        have hq : ((str l[k]).toList == (str x).toList) = true:=str_eq hx
        replace hx:=Hj hx; go_wp2; go_round
        case rel => exact ⟨k + 1,by go_num,by omega,hn⟩
        case measure => simp [intOf]; omega
       ·have hf3 : Hid (fr = ((0,0),30)):=Hj (by rw [hf2.out,not_all hlt hx]; rfl)
        have hq : ((str l[k]).toList == (str x).toList) = false:=str_ne hx
        replace hx:=Hj hx; go_wp2; exact ret_blk rfl rfl rfl (hK2.out.two _ _) Tryz.underlying103 rfl (by kernel_rfl) ⟨by rw [hf3.out]; rfl,by first | exact two_below hG hb02.out _ _ | exact two_below' hb02.out _ _⟩
      ·obtain rfl : k = l.length:=by omega
       have hal:=ha.out; rw [List.take_length] at hal
       have hf3 : fr = lengthOf x:=by rw [hf2.out,if_pos hal]
       have hN : ∀ w,Calls Tryz.prog 84 #[.string (str x)] w fun e w' => e = .returned (.tuple #[.int .i64 ((number x).1 : Int),.bool (decide ((number x).2 = 0))]) ∧ ∃ n,w' = w.drewN n:=fun w => frnumber_any (str x) w (by rw [str_size]; unfold maxLen; omega)
       unfold lengthOf at hf3
       clear hal; by_cases h0 : (number x).2 = 0
       ·rw [decide_eq_true h0] at hN
        rw [if_pos h0] at hf3
        generalize (number x).1 = n at *; replace h0:=Hj h0; by_cases hbig : 65536 < n
        ·rw [if_pos hbig] at hf3
         replace hf3:=Hj hf3; replace hN:=Hj hN; go_wp2_with fail
         refine (hN.out _).mono ?_
         rintro e w3 ⟨rfl,nd,rfl⟩
         go_wp2; exact ret_blk rfl rfl rfl ((hK2.out.drewN nd).two _ _) Tryz.underlying103 rfl (by kernel_rfl) ⟨by rw [hf3.out]; rfl,by first | exact two_below hG (below_drewN hb02.out nd) _ _ | exact two_below' (below_drewN hb02.out nd) _ _⟩
        ·rw [if_neg hbig] at hf3
         replace hf3:=Hj hf3; replace hN:=Hj hN; go_wp2_with fail
         refine (hN.out _).mono ?_
         rintro e w3 ⟨rfl,nd,rfl⟩
         go_wp2; exact ret_blk rfl rfl rfl ((hK2.out.drewN nd).two _ _) Tryz.underlying103 rfl (by kernel_rfl) ⟨by rw [hf3.out]; rfl,by first | exact two_below hG (below_drewN hb02.out nd) _ _ | exact two_below' (below_drewN hb02.out nd) _ _⟩
       ·rw [decide_eq_false h0] at hN
        rw [if_neg h0] at hf3
        generalize (number x).1 = n at *; replace h0:=Hj h0; replace hf3:=Hj hf3; replace hN:=Hj hN; go_wp2_with fail
        refine (hN.out _).mono ?_
        rintro e w3 ⟨rfl,nd,rfl⟩
        go_wp2; exact ret_blk rfl rfl rfl ((hK2.out.drewN nd).two _ _) Tryz.underlying103 rfl (by kernel_rfl) ⟨by rw [hf3.out]; rfl,by first | exact two_below hG (below_drewN hb02.out nd) _ _ | exact two_below' (below_drewN hb02.out nd) _ _⟩
 ·by_cases n2 : 0 < V2.length
  ·have hf:=Hj (hfc n1 n2)
   clear hff hfc hfn hfl; cases hl : elemsGo [] V2 with
   | none =>
    have hf2 : Hid (fr = ((0,0),32)):=Hj (by rw [hf.out,hl]; rfl)
    clear hl; go_wp2; exact ret_blk rfl rfl rfl (hK2.out.two _ _) Tryz.underlying103 rfl (by kernel_rfl) ⟨by rw [hf2.out]; rfl,two_below hG hb02.out _ _⟩
   | some l =>
    have hv3:=hv2.out; rw [hl] at hv3
    have hRl : Rd w2 1 o2 l.length (strs l):=Rd.own hv3
    obtain ⟨hsl,hcn⟩:=hs2.out l hl
    clear hv3; by_cases h1 : l.length = 1
    ·obtain ⟨c,rfl⟩:=List.length_eq_one_iff.1 h1
     have hc5:=hsl c (by simp); obtain ⟨A1,q1,rfl,hq1,-,hcell⟩:=hRl
     obtain ⟨b1,o3,rfl,-,x1⟩:=hcell (by simp)
     have d0 : w2.cell? ⟨b1,o3,none⟩ = some (.string (str c)):=x1 0 _ rfl
     have hL : ∀ w,Calls Tryz.prog 86 #[.string (str c)] w fun e w' => e = .returned (.string (str (Syn.lower c))) ∧ Below w.heap.size w w':=fun w => frlower_any (str c) w (by rw [str_size]; omega)
     have hf2 : fr = if Syn.lower c = ch then ((3,0),0) else ((0,0),32):=by rw [hf.out,hl]; rfl
     replace hL:=Hj hL; clear hl hf hcell x1 hsl; have hone : (([c] : List Bytes).length : Int) = 1:=rfl
     by_cases hch : Syn.lower c = ch
     ·rw [if_pos hch] at hf2
      have hq : ((str (Syn.lower c)).toList == [99,104,117,110,107,101,100]) = true:=by rw [str_toList,hch]; decide
      replace hch:=Hj hch; replace hf2:=Hj hf2; go_wp2_with fail
      refine (hL.out _).mono ?_
      rintro e w3 ⟨rfl,hb3⟩
      have hb03:=Hj (hb02.out.trans (hb3.mono (by have:=hK2.out.lt; omega)))
      have hK3:=hK2.out.below hb3; have e0 : w3.cell? ⟨G,0,none⟩ = some (.int .i64 0):=hK3.cell 0
      have e1 : w3.cell? ⟨G,1,none⟩ = some (.int .i64 0):=hK3.cell 1
      have g0:=hK3.frozen 0; have g1:=hK3.frozen 1; replace hK3:=Hj hK3; clear hb3; go_wp2; exact ret_blk rfl rfl rfl (hK3.out.two _ _) Tryz.underlying103 rfl (by kernel_rfl) ⟨by rw [hf2.out]; rfl,two_below hG hb03.out _ _⟩
     ·rw [if_neg hch] at hf2
      have hq : ((str (Syn.lower c)).toList == [99,104,117,110,107,101,100]) = false:=by rw [str_toList,beq_eq_false_iff_ne]; exact hch
      replace hch:=Hj hch; replace hf2:=Hj hf2; go_wp2_with fail
      refine (hL.out _).mono ?_
      rintro e w3 ⟨rfl,hb3⟩
      have hb03:=Hj (hb02.out.trans (hb3.mono (by have:=hK2.out.lt; omega)))
      have hK3:=hK2.out.below hb3; have e0 : w3.cell? ⟨G,0,none⟩ = some (.int .i64 0):=hK3.cell 0
      have e1 : w3.cell? ⟨G,1,none⟩ = some (.int .i64 0):=hK3.cell 1
      have g0:=hK3.frozen 0; have g1:=hK3.frozen 1; replace hK3:=Hj hK3; clear hb3; go_wp2; exact ret_blk rfl rfl rfl (hK3.out.two _ _) Tryz.underlying103 rfl (by kernel_rfl) ⟨by rw [hf2.out]; rfl,two_below hG hb03.out _ _⟩
    ·have hf2 : Hid (fr = ((0,0),32)):=Hj (by rw [hf.out,hl,frameC_long h1])
     have hb1 : ((l.length : Int) == 1) = false:=beq_false_of_ne (by omega)
     have hb2 : ((l.length : Int) != 1) = true:=by rw [bne,hb1]; rfl
     obtain ⟨A1,q1,rfl,hq1,-,-⟩:=hRl
     clear hl hsl; go_wp2; exact ret_blk rfl rfl rfl (hK2.out.two _ _) Tryz.underlying103 rfl (by kernel_rfl) ⟨by rw [hf2.out]; rfl,two_below hG hb02.out _ _⟩
  ·have hf:=Hj (hfn n1 n2)
   have hn0 : ((V1.length : Int) == 0) = true:=by rw [show V1.length = 0 by omega]; rfl
   clear hff hfc hfn hfl; go_wp2; exact ret_blk rfl rfl rfl (hK2.out.two _ _) Tryz.underlying103 rfl (by kernel_rfl) ⟨by rw [hf.out]; rfl,two_below hG hb02.out _ _⟩
end Go.Proofs.YtibcbaghgpemfaaGreatDoor
namespace Go.Proofs.YtibcbaghgpemfaaGreatDoor
open Go.RowKit Syn Fr
theorem refNum_eq (x : Bytes) : ((number x).2 = 0 ∧ refNum x = ((number x).1 : Int)) ∨ ((number x).2 ≠ 0 ∧ refNum x = -1):=by
 unfold refNum
 by_cases h : (number x).2 = 0
 ·left; exact ⟨h,if_pos h⟩
 ·right; exact ⟨h,if_neg h⟩
theorem frameL_bad {x : Bytes} {r : List Bytes} (h : (number x).2 ≠ 0) : frameL (some (x :: r)) = ((0,0),30):=by
 rw [frameL_cons]
 split
 ·unfold lengthOf; rw [if_neg h]
 ·rfl
set_option maxRecDepth 100000 in
set_option maxHeartbeats 16000000 in
theorem rof_frame (L : List (Bytes × Bytes)) (v : Value) (w : World) (hF : Few L) (hR : Rd w 2 v L.length (prs L)) :
  Calls Tryz.prog 173 #[v] w fun e w' => e = .returned (.tuple #[frameV (frame 1 L),.int .i64 (frame 1 L).2]) ∧ Below w.heap.size w w':=by
 obtain ⟨G,hG⟩ : ∃ G,w.heap.size = G:=⟨_,rfl⟩
 have hE1 : ∀ w,Rd w 2 v L.length (prs L) → Calls Tryz.prog 196 #[v,.string ⟨#[99,111,110,116,101,110,116,45,108,101,110,103,116,104]⟩] w fun e w' => ∃ o,e = .returned (.tuple #[o,.bool (elemsGo [] (allV L cl)).isSome]) ∧ PartsOut w' w.heap.size o (elemsGo [] (allV L cl)) ∧ Below w.heap.size w w':=fun w h => relements_any L cl v w hF (by decide) h
 have hE2 : ∀ w,Rd w 2 v L.length (prs L) → Calls Tryz.prog 196 #[v,.string ⟨#[116,114,97,110,115,102,101,114,45,101,110,99,111,100,105,110,103]⟩] w fun e w' => ∃ o,e = .returned (.tuple #[o,.bool (elemsGo [] (allV L te)).isSome]) ∧ PartsOut w' w.heap.size o (elemsGo [] (allV L te)) ∧ Below w.heap.size w w':=fun w h => relements_any L te v w hF (by decide) h
 have hA1 : ∀ w,Rd w 2 v L.length (prs L) → Calls Tryz.prog 197 #[v,.string ⟨#[99,111,110,116,101,110,116,45,108,101,110,103,116,104]⟩] w fun e w' => ∃ o,e = .returned o ∧ Own w' w.heap.size 9 1 o (allV L cl).length (strs (allV L cl)) ∧ Below w.heap.size w w':=fun w h => rall_anyF L cl v w hF (by decide) h
 have hA2 : ∀ w,Rd w 2 v L.length (prs L) → Calls Tryz.prog 197 #[v,.string ⟨#[116,114,97,110,115,102,101,114,45,101,110,99,111,100,105,110,103]⟩] w fun e w' => ∃ o,e = .returned o ∧ Own w' w.heap.size 9 1 o (allV L te).length (strs (allV L te)) ∧ Below w.heap.size w w':=fun w h => rall_anyF L te v w hF (by decide) h
 have hes : ∀ name l,elemsGo [] (allV L name) = some l → (∀ x ∈ l,x.length ≤ 5000) ∧ l.length ≤ 600000:=fun name l h => ⟨elem_short hF h,elem_few hF h⟩
 have hff:=frame_both (K:=1) (L:=L); have hfc:=frame_te (K:=1) (L:=L); have hfn:=frame_none (K:=1) (L:=L); have hfl:=frame_cl (K:=1) (L:=L); have hs1:=hes cl; have hs2:=hes te; clear hes; have hm1 : (allV L cl).length ≤ 100:=Nat.le_trans (allV_length L cl) hF.len
 have hm2 : (allV L te).length ≤ 100:=Nat.le_trans (allV_length L te) hF.len
 generalize frame 1 L = fr at *; generalize allV L cl = V1 at *; generalize allV L te = V2 at *; obtain ⟨A,cap,rfl,hcap,-,-⟩:=id hR; replace hE1:=Hj hE1; replace hE2:=Hj hE2; replace hA1:=Hj hA1; replace hA2:=Hj hA2; replace hs1:=Hj hs1; replace hs2:=Hj hs2; replace hR:=Hj (hR.below ((Below.refl w.heap.size w).alloc (Nat.le_refl _) (.cells #[.int .i64 0,.int .i64 0] 189))); go_enter Tryz.func173,Tryz.ntmps173
 go_wp2_with fail
 have hK:=Blk.new w 189 #[.int .i64 0,.int .i64 0]; rw [hG] at hK
 have hb0:=(Below.refl G w).alloc (by omega) (.cells #[.int .i64 0,.int .i64 0] 189); generalize w.alloc (.cells #[.int .i64 0,.int .i64 0] 189) = w0 at *; refine (hE1.out _ hR.out).mono ?_
 rintro e w1 ⟨o1,rfl,hv1,hb1⟩
 have hR1:=Hj (hR.out.below hb1); have hb01:=Hj (hb0.trans (hb1.mono (by have:=hK.lt; omega)))
 have hK1:=Hj (hK.below hb1); replace hv1:=Hj hv1; clear hb1 hK hb0; go_wp2_with fail
 refine (hE2.out _ hR1.out).mono ?_
 rintro e w2 ⟨o2,rfl,hv2,hb2⟩
 have hR2:=Hj (hR1.out.below hb2); have hb02:=Hj (hb01.out.trans (hb2.mono (by have:=hK1.out.lt; omega)))
 have hK2:=Hj (hK1.out.below hb2); have hV1:=Hj (fun l (h : elemsGo [] V1 = some l) => (Rd.own (h ▸ hv1.out : PartsOut w1 w0.heap.size o1 (some l)) : Rd w1 1 o1 l.length (strs l)).below hb2); have hV2:=Hj (fun l (h : elemsGo [] V2 = some l) => (Rd.own (h ▸ hv2 : PartsOut w2 w1.heap.size o2 (some l)) : Rd w2 1 o2 l.length (strs l))); clear hb2 hK1 hb01 hv1 hR hR1 hv2; go_wp2_with fail
 refine (hA1.out _ hR2.out).mono ?_
 rintro e w3 ⟨o3,rfl,hv3,hb3⟩
 have hR3:=Hj (hR2.out.below hb3); have hb03:=Hj (hb02.out.trans (hb3.mono (by have:=hK2.out.lt; omega)))
 have hK3:=Hj (hK2.out.below hb3); obtain ⟨A3,q3,rfl,-,-,-⟩ : Rd w3 1 o3 V1.length (strs V1):=Rd.own hv3
 have hV13:=Hj (fun l (h : elemsGo [] V1 = some l) => (hV1.out l h).below hb3); have hV23:=Hj (fun l (h : elemsGo [] V2 = some l) => (hV2.out l h).below hb3); clear hb3 hb02 hK2 hV1 hV2 hR2 hv3; go_wp2_with fail
 refine (hA2.out _ hR3.out).mono ?_
 rintro e w4 ⟨o4,rfl,hv4,hb4⟩
 have hb04:=Hj (hb03.out.trans (hb4.mono (by have:=hK3.out.lt; omega)))
 have hK4:=hK3.out.below hb4; have c0 : w4.cell? ⟨G,0,none⟩ = some (.int .i64 0):=hK4.cell 0
 have c1 : w4.cell? ⟨G,1,none⟩ = some (.int .i64 0):=hK4.cell 1
 have f0:=hK4.frozen 0; have f1:=hK4.frozen 1; replace hK4:=Hj hK4; obtain ⟨A4,q4,rfl,-,-,-⟩ : Rd w4 1 o4 V2.length (strs V2):=Rd.own hv4
 have hV1:=Hj (fun l (h : elemsGo [] V1 = some l) => (hV13.out l h).below hb4); have hV2:=Hj (fun l (h : elemsGo [] V2 = some l) => (hV23.out l h).below hb4); clear hb4 hb03 hK3 hV13 hV23 hR3 hv4; by_cases n1 : 0 < V1.length
 ·have hd1 : decide ((0 : Int) < (V1.length : Int)) = true:=by rw [decide_eq_true_iff]; omega
  by_cases n2 : 0 < V2.length
  ·have hd2 : decide ((0 : Int) < (V2.length : Int)) = true:=by rw [decide_eq_true_iff]; omega
   have hf:=Hj (hff n1 n2); clear hff hfc hfn hfl; go_wp2; exact ret_blk rfl rfl rfl (hK4.out.two _ _) Tryz.underlying189 rfl (by kernel_rfl) ⟨by rw [hf.out]; rfl,by first | exact two_below hG hb04.out _ _ | exact two_below' hb04.out _ _⟩
  ·have hd2 : decide ((0 : Int) < (V2.length : Int)) = false:=by rw [decide_eq_false_iff_not]; omega
   have hf:=Hj (hfl n1 n2); clear hff hfc hfn hfl; cases hl : elemsGo [] V1 with
   | none =>
    have hf2 : Hid (fr = ((0,0),30)):=Hj (by rw [hf.out,hl]; rfl)
    clear hl; go_wp2; exact ret_blk rfl rfl rfl (hK4.out.two _ _) Tryz.underlying189 rfl (by kernel_rfl) ⟨by rw [hf2.out]; rfl,by first | exact two_below hG hb04.out _ _ | exact two_below' hb04.out _ _⟩
   | some l =>
    have hRl:=hV1.out l hl; obtain ⟨hsl,hcn⟩:=hs1.out l hl
    cases l with
    | nil =>
     obtain ⟨A1,q1,rfl,-,-,-⟩:=hRl
     have hf2 : Hid (fr = ((0,0),30)):=Hj (by rw [hf.out,hl]; rfl)
     clear hl; go_wp2; exact ret_blk rfl rfl rfl (hK4.out.two _ _) Tryz.underlying189 rfl (by kernel_rfl) ⟨by rw [hf2.out]; rfl,by first | exact two_below hG hb04.out _ _ | exact two_below' hb04.out _ _⟩
    | cons x r =>
     have hf2 : Hid (fr = frameL (some (x :: r))):=Hj (by rw [hf.out,hl])
     have hx5:=hsl x (by simp); have hN : ∀ w,Calls Tryz.prog 198 #[.string (str x)] w fun e w' => e = .returned (.int .i64 (refNum x)) ∧ w' = w:=fun w => refnum_any (str x) w (by rw [str_size]; unfold maxLen; omega)
     replace hN:=Hj hN; obtain ⟨l,hlx⟩ : ∃ l,l = x :: r:=⟨_,rfl⟩
     have hl0 : l[0]? = some x:=by rw [hlx]; rfl
     have hlp : 0 < l.length:=by rw [hlx]; simp
     have hfa : Hid (fr = if l.all (· == x) then lengthOf x else ((0,0),30)):=Hj (by rw [hf2.out,frameL_cons,hlx])
     rw [← hlx] at hRl hcn
     clear hl hsl hlx hf; obtain ⟨A1,q1,rfl,hq1,-,hcell⟩:=hRl
     obtain ⟨b1,o3,rfl,-,x1⟩:=hcell hlp
     have d0 : w4.cell? ⟨b1,o3,none⟩ = some (.string (str x)):=by
      have:=x1 0 (.string (str x)) (by unfold strs; rw [List.getElem?_map,hl0]; rfl)
      exact this
     have hlz : ((l.length : Int) == 0) = false:=beq_false_of_ne (by omega)
     replace x1:=Hj x1; clear hcell hl0; rcases refNum_eq x with ⟨h0,hrn⟩ | ⟨h0,hrn⟩
     ·have hlo : lengthOf x = if 65536 < (number x).1 then ((0,0),5) else ((2,(number x).1),0):=by unfold lengthOf; rw [if_pos h0]
      rw [hlo] at hfa
      rw [hrn] at hN
      generalize (number x).1 = n at *; have hnn : decide ((n : Int) < 0) = false:=by rw [decide_eq_false_iff_not]; omega
      clear h0 hrn hlo hf2; go_wp2_with fail
      refine (hN.out _).mono ?_
      rintro e w5 ⟨rfl,rfl⟩
      go_wp2; go_loopw [10] (fun i wr => ∃ k m : Nat,i = .int .i64 (k : Int) ∧ k ≤ l.length ∧ Hid ((l.take k).all (· == x) = true) ∧ wr = w5.drewN m) (fun i _ => l.length - (intOf i).toNat)
      case atStart => exact ⟨0,0,rfl,by omega,rfl,rfl⟩
      case round =>
       obtain ⟨k,m,rfl,hk,ha,hw⟩:=hrel
       have hKr : Hid (Blk wr G 189 #[.int .i64 0,.int .i64 0]):=Hj (by rw [hw]; exact hK4.out.drewN m)
       have hbr : Hid (Below G w wr):=Hj (by rw [hw]; exact below_drewN (by first | exact hb04.out | (have:=hb04.out; rwa [hG] at this)) m)
       have e0 : wr.cell? ⟨G,0,none⟩ = some (.int .i64 0):=hKr.out.cell 0
       have e1 : wr.cell? ⟨G,1,none⟩ = some (.int .i64 0):=hKr.out.cell 1
       have g0:=hKr.out.frozen 0; have g1:=hKr.out.frozen 1; have dr0 : wr.cell? ⟨b1,o3,none⟩ = some (.string (str x)):=by rw [hw]; exact d0
       by_cases hlt : k < l.length
       ·have dr1 : wr.cell? ⟨b1,o3 + k,none⟩ = some (.string (str l[k])):=by rw [hw]; exact x1.out k _ (strs_at hlt)
        replace hw:=Hj hw; by_cases hx : l[k] = x
        ·have hn:=Hj (all_eq_take hlt ha.out hx)
         have hq : ((str l[k]).toList == (str x).toList) = true:=str_eq hx
         replace hx:=Hj hx; go_wp2_with fail
         go_quiet (fail)
         go_wp2; go_roundw
         case rel => exact ⟨k + 1,m + nq,by go_num,by omega,hn,by rw [hw.out,World.drewN_drewN]⟩
         case measure => simp [intOf]; omega
        ·have hf3 : Hid (fr = ((0,0),30)):=Hj (by rw [hfa.out,not_all hlt hx]; rfl)
         have hq : ((str l[k]).toList == (str x).toList) = false:=str_ne hx
         replace hx:=Hj hx; go_wp2_with fail
         go_quiet (fail)
         go_wp2; exact ret_blk rfl rfl rfl ((hKr.out.drewN nq).two _ _) Tryz.underlying189 rfl (by kernel_rfl) ⟨by rw [hf3.out]; rfl,by first | exact two_below hG (below_drewN hbr.out nq) _ _ | exact two_below' (below_drewN hbr.out nq) _ _⟩
       ·obtain rfl : k = l.length:=by omega
        have hal:=ha.out; rw [List.take_length] at hal
        have hf3:=hfa.out; rw [if_pos hal] at hf3
        clear hal hw; by_cases hbig : 65536 < n
        ·rw [if_pos hbig] at hf3
         replace hf3:=Hj hf3; go_wp2_with fail
         refine (hN.out _).mono ?_
         rintro e w6 ⟨rfl,rfl⟩
         go_wp2; exact ret_blk rfl rfl rfl (hKr.out.two _ _) Tryz.underlying189 rfl (by kernel_rfl) ⟨by rw [hf3.out]; rfl,by first | exact two_below hG hbr.out _ _ | exact two_below' hbr.out _ _⟩
        ·rw [if_neg hbig] at hf3
         replace hf3:=Hj hf3; go_wp2_with fail
         refine (hN.out _).mono ?_
         rintro e w6 ⟨rfl,rfl⟩
         go_wp2_with fail
         refine (hN.out _).mono ?_
         rintro e w7 ⟨rfl,rfl⟩
         go_wp2; exact ret_blk rfl rfl rfl (hKr.out.two _ _) Tryz.underlying189 rfl (by kernel_rfl) ⟨by rw [hf3.out]; rfl,by first | exact two_below hG hbr.out _ _ | exact two_below' hbr.out _ _⟩
     ·have hf3 : Hid (fr = ((0,0),30)):=Hj (by rw [hf2.out,frameL_bad h0])
      rw [hrn] at hN
      clear h0 hrn hf2 hfa; go_wp2_with fail
      refine (hN.out _).mono ?_
      rintro e w5 ⟨rfl,rfl⟩
      go_wp2; exact ret_blk rfl rfl rfl (hK4.out.two _ _) Tryz.underlying189 rfl (by kernel_rfl) ⟨by rw [hf3.out]; rfl,by first | exact two_below hG hb04.out _ _ | exact two_below' hb04.out _ _⟩
 ·have hd1 : decide ((0 : Int) < (V1.length : Int)) = false:=by rw [decide_eq_false_iff_not]; omega
  by_cases n2 : 0 < V2.length
  ·have hd2 : decide ((0 : Int) < (V2.length : Int)) = true:=by rw [decide_eq_true_iff]; omega
   have hf:=Hj (hfc n1 n2); clear hff hfc hfn hfl; cases hl : elemsGo [] V2 with
   | none =>
    have hf2 : Hid (fr = ((0,0),32)):=Hj (by rw [hf.out,hl]; rfl)
    clear hl; go_wp2; exact ret_blk rfl rfl rfl (hK4.out.two _ _) Tryz.underlying189 rfl (by kernel_rfl) ⟨by rw [hf2.out]; rfl,by first | exact two_below hG hb04.out _ _ | exact two_below' hb04.out _ _⟩
   | some l =>
    have hRl:=hV2.out l hl; obtain ⟨hsl,hcn⟩:=hs2.out l hl
    by_cases h1 : l.length = 1
    ·obtain ⟨c,rfl⟩:=List.length_eq_one_iff.1 h1
     have hc5:=hsl c (by simp); obtain ⟨A1,q1,rfl,hq1,-,hcell⟩:=hRl
     obtain ⟨b1,o3,rfl,-,x1⟩:=hcell (by simp)
     have d0 : w4.cell? ⟨b1,o3,none⟩ = some (.string (str c)):=x1 0 _ rfl
     have hL : ∀ w,Calls Tryz.prog 136 #[.string (str c)] w fun e w' => e = .returned (.string (str (Syn.lower c))) ∧ Below w.heap.size w w':=fun w => rlower_any (str c) w (by rw [str_size]; omega)
     have hf2 : fr = if Syn.lower c = ch then ((3,0),0) else ((0,0),32):=by rw [hf.out,hl]; rfl
     replace hL:=Hj hL; clear hl hf hcell x1 hsl; by_cases hch : Syn.lower c = ch
     ·rw [if_pos hch] at hf2
      have hq : ((str (Syn.lower c)).toList == [99,104,117,110,107,101,100]) = true:=by rw [str_toList,hch]; decide
      replace hch:=Hj hch; replace hf2:=Hj hf2; go_wp2_with fail
      refine (hL.out _).mono ?_
      rintro e w5 ⟨rfl,hb5⟩
      have hb05:=Hj (hb04.out.trans (hb5.mono (by have:=hK4.out.lt; omega)))
      have hK5:=hK4.out.below hb5; have e0 : w5.cell? ⟨G,0,none⟩ = some (.int .i64 0):=hK5.cell 0
      have e1 : w5.cell? ⟨G,1,none⟩ = some (.int .i64 0):=hK5.cell 1
      have g0:=hK5.frozen 0; have g1:=hK5.frozen 1; replace hK5:=Hj hK5; clear hb5; go_wp2; exact ret_blk rfl rfl rfl (hK5.out.two _ _) Tryz.underlying189 rfl (by kernel_rfl) ⟨by rw [hf2.out]; rfl,by first | exact two_below hG hb05.out _ _ | exact two_below' hb05.out _ _⟩
     ·rw [if_neg hch] at hf2
      have hq : ((str (Syn.lower c)).toList == [99,104,117,110,107,101,100]) = false:=by rw [str_toList,beq_eq_false_iff_ne]; exact hch
      replace hch:=Hj hch; replace hf2:=Hj hf2; go_wp2_with fail
      refine (hL.out _).mono ?_
      rintro e w5 ⟨rfl,hb5⟩
      have hb05:=Hj (hb04.out.trans (hb5.mono (by have:=hK4.out.lt; omega)))
      have hK5:=hK4.out.below hb5; have e0 : w5.cell? ⟨G,0,none⟩ = some (.int .i64 0):=hK5.cell 0
      have e1 : w5.cell? ⟨G,1,none⟩ = some (.int .i64 0):=hK5.cell 1
      have g0:=hK5.frozen 0; have g1:=hK5.frozen 1; replace hK5:=Hj hK5; clear hb5; go_wp2; exact ret_blk rfl rfl rfl (hK5.out.two _ _) Tryz.underlying189 rfl (by kernel_rfl) ⟨by rw [hf2.out]; rfl,by first | exact two_below hG hb05.out _ _ | exact two_below' hb05.out _ _⟩
    ·have hf2 : Hid (fr = ((0,0),32)):=Hj (by rw [hf.out,hl,frameC_long h1])
     have hb1 : ((l.length : Int) == 1) = false:=beq_false_of_ne (by omega)
     have hb2 : ((l.length : Int) != 1) = true:=by rw [bne,hb1]; rfl
     obtain ⟨A1,q1,rfl,hq1,-,-⟩:=hRl
     clear hl hsl; go_wp2; exact ret_blk rfl rfl rfl (hK4.out.two _ _) Tryz.underlying189 rfl (by kernel_rfl) ⟨by rw [hf2.out]; rfl,by first | exact two_below hG hb04.out _ _ | exact two_below' hb04.out _ _⟩
  ·have hd2 : decide ((0 : Int) < (V2.length : Int)) = false:=by rw [decide_eq_false_iff_not]; omega
   have hf:=Hj (hfn n1 n2); clear hff hfc hfn hfl; go_wp2; exact ret_blk rfl rfl rfl (hK4.out.two _ _) Tryz.underlying189 rfl (by kernel_rfl) ⟨by rw [hf.out]; rfl,by first | exact two_below hG hb04.out _ _ | exact two_below' hb04.out _ _⟩
end Go.Proofs.YtibcbaghgpemfaaGreatDoor
namespace Go.Proofs.YtibcbaghgpemfaaGreatDoor
open Go.RowKit Syn Fr
set_option maxHeartbeats 2000000 in
theorem ref_request (L : List (Bytes × Bytes)) (m t : ByteArray) (A : Option Addr) (cap : Nat) (w : World) (hF : Few L) (hR : Rd w 2 (.slice A L.length cap) L.length (prs L)) :
  Calls Tryz.prog 141 #[.agg #[.string m,.string t,.slice A L.length cap]] w fun e w' => e = .returned (.tuple #[frameV (frame 1 L),.int .i64 (frame 1 L).2]) ∧ Below w.heap.size w w':=by
 obtain ⟨G,hG⟩ : ∃ G,w.heap.size = G:=⟨_,rfl⟩
 have hO:=Hj (fun w (h : Rd w 2 (.slice A L.length cap) L.length (prs L)) => rof_frame L _ w hF h); generalize frame 1 L = fr at *; replace hR:=Hj hR; go_enter Tryz.func141,Tryz.ntmps141
 go_wp2_with fail
 have hA:=Blk.new (w.alloc (.cells #[.string m,.string t,.slice A L.length cap] 71)) 189 #[.int .i64 0,.int .i64 0]; have hB0:=((Below.refl w.heap.size w).alloc (Nat.le_refl _) (.cells #[.string m,.string t,.slice A L.length cap] 71)).alloc (by rw [alloc_size']; omega) (.cells #[.int .i64 0,.int .i64 0] 189)
 rw [alloc_size',hG] at hA
 generalize (w.alloc (.cells #[.string m,.string t,.slice A L.length cap] 71)).alloc (.cells #[.int .i64 0,.int .i64 0] 189) = w2 at *; have hR2:=hR.out.below hB0; refine (hO.out _ hR2).mono ?_
 rintro e w3 ⟨rfl,hb3⟩
 have hK:=hA.below hb3; have hB3:=Below.next hB0 hB0.size hb3; have c0 : w3.cell? ⟨G + 1,0,none⟩ = some (.int .i64 0):=hK.cell 0
 have c1 : w3.cell? ⟨G + 1,1,none⟩ = some (.int .i64 0):=hK.cell 1
 have f0:=hK.frozen 0; have f1:=hK.frozen 1; replace hK:=Hj hK; replace hB3:=Hj hB3; clear hb3 hR2 hA hB0; rw [show frameV fr = .agg #[.int .i64 (fr.1.1 : Int),.int .i64 (fr.1.2 : Int)] from rfl]
 go_wp2; exact ret_blk rfl rfl rfl (hK.out.two _ _) Tryz.underlying189 rfl (by kernel_rfl) ⟨rfl,(hB3.out.setCell (p:=⟨G + 1,0,none⟩) (by show _ ≤ G + 1; omega) _).setCell (p:=⟨G + 1,1,none⟩) (by show _ ≤ G + 1; omega) _⟩
theorem frame_swap (L : List (Bytes × Bytes)) : (frame 4 L = ((4,0),0) ∧ frame 1 L = ((1,0),0)) ∨ ((frame 4 L).1.1 ≠ 4 ∧ frame 1 L = frame 4 L):=by
 by_cases n1 : 0 < (allV L cl).length
 ·by_cases n2 : 0 < (allV L te).length
  ·right; rw [frame_both n1 n2,frame_both n1 n2]; exact ⟨by decide,rfl⟩
  ·right
   rw [frame_cl n1 n2,frame_cl n1 n2]
   refine ⟨?_,rfl⟩
   match elemsGo [] (allV L cl) with
   | none => decide
   | some [] => decide
   | some (x :: r) =>
    rw [frameL_cons]
    split
    ·unfold lengthOf
     split
     ·split
      ·decide
      ·show (2 : Nat) ≠ 4; decide
     ·decide
    ·decide
 ·by_cases n2 : 0 < (allV L te).length
  ·right
   rw [frame_te n1 n2,frame_te n1 n2]
   refine ⟨?_,rfl⟩
   match elemsGo [] (allV L te) with
   | none => decide
   | some [] => decide
   | some [c] =>
    show (if Syn.lower c = ch then (((3,0),0) : Out) else ((0,0),32)).1.1 ≠ 4
    split
    ·show (3 : Nat) ≠ 4; decide
    ·show (0 : Nat) ≠ 4; decide
   | some (_ :: _ :: _) => show (0 : Nat) ≠ 4; decide
  ·left; rw [frame_none n1 n2,frame_none n1 n2]; exact ⟨rfl,rfl⟩
theorem two_alloc {w w1 : World} {G : Nat} (hG : w.heap.size = G) (h : Below w.heap.size w w1) (hl : w.heap.size ≤ w1.heap.size) (a b : Value) (o : Obj) : Below w.heap.size w (((w1.setCell ⟨G + 1,0,none⟩ a).setCell ⟨G + 1,1,none⟩ b).alloc o) :=
 ((h.setCell (p:=⟨G + 1,0,none⟩) (by show _ ≤ G + 1; omega) a).setCell (p:=⟨G + 1,1,none⟩) (by show _ ≤ G + 1; omega) b).alloc (by rw [size_setCell,size_setCell]; exact hl) o
theorem two_alloc' {w w1 : World} {G : Nat} (hG : w.heap.size = G) (h : Below w.heap.size w w1) (hl : w.heap.size ≤ w1.heap.size) (a b : Value) (o : Obj) : Below G w (((w1.setCell ⟨G + 1,0,none⟩ a).setCell ⟨G + 1,1,none⟩ b).alloc o):=by
 have:=two_alloc hG h hl a b o
 rwa [hG] at this
set_option maxHeartbeats 4000000 in
theorem of_request (L : List (Bytes × Bytes)) (m t : ByteArray) (A : Option Addr) (cap : Nat) (w : World) (hF : Few L) (hR : Rd w 2 (.slice A L.length cap) L.length (prs L)) :
  Calls Tryz.prog 56 #[.agg #[.string m,.string t,.slice A L.length cap]] w fun e w' => e = .returned (.tuple #[frameV (frame 1 L),errV (frame 1 L).2]) ∧ Below w.heap.size w w':=by
 obtain ⟨G,hG⟩ : ∃ G,w.heap.size = G:=⟨_,rfl⟩
 have hO:=Hj (fun w (h : Rd w 2 (.slice A L.length cap) L.length (prs L)) => of_frame L _ w hF h); have hsw:=frame_swap L; generalize frame 1 L = f1 at *; generalize frame 4 L = f4 at *; replace hR:=Hj hR; go_enter Tryz.func56,Tryz.ntmps56
 go_wp2_with fail
 have hA:=Blk.new (w.alloc (.cells #[.string m,.string t,.slice A L.length cap] 30)) 103 #[.int .i64 0,.int .i64 0]; have hB0:=((Below.refl w.heap.size w).alloc (Nat.le_refl _) (.cells #[.string m,.string t,.slice A L.length cap] 30)).alloc (by rw [alloc_size']; omega) (.cells #[.int .i64 0,.int .i64 0] 103)
 rw [alloc_size',hG] at hA
 generalize (w.alloc (.cells #[.string m,.string t,.slice A L.length cap] 30)).alloc (.cells #[.int .i64 0,.int .i64 0] 103) = w2 at *; have hR2:=hR.out.below hB0; refine (hO.out _ hR2).mono ?_
 rintro e w3 ⟨rfl,hb3⟩
 have hK:=hA.below hb3; have hB3:=Below.next hB0 hB0.size hb3; have c0 : w3.cell? ⟨G + 1,0,none⟩ = some (.int .i64 0):=hK.cell 0
 have c1 : w3.cell? ⟨G + 1,1,none⟩ = some (.int .i64 0):=hK.cell 1
 have g0:=hK.frozen 0; have g1:=hK.frozen 1; have hGl : G + 1 < w3.heap.size:=hK.lt
 have hwl:=hB3.size; replace hK:=Hj hK; replace hB3:=Hj hB3; clear hb3 hR2 hA hB0; rw [show frameV f4 = .agg #[.int .i64 (f4.1.1 : Int),.int .i64 (f4.1.2 : Int)] from rfl]
 rcases hsw with ⟨rfl,rfl⟩ | ⟨h4,rfl⟩
 ·rw [show errV (((4,0),0) : Out).2 = .nilIface from rfl]
  go_wp2; exact ret_blk rfl rfl rfl ((hK.out.two _ _).alloc _) Tryz.underlying103 rfl (by kernel_rfl) ⟨rfl,by first | exact two_alloc hG hB3.out hwl _ _ _ | exact two_alloc' hG hB3.out hwl _ _ _⟩
 ·have hk4 : ((f1.1.1 : Int) == 4) = false:=beq_false_of_ne (by omega)
  generalize hev : errV f1.2 = ev
  replace hev:=Hj hev; go_wp2; exact ret_blk rfl rfl rfl ((hK.out.two _ _).alloc _) Tryz.underlying103 rfl (by kernel_rfl) ⟨by rw [hev.out]; rfl,by first | exact two_alloc hG hB3.out hwl _ _ _ | exact two_alloc' hG hB3.out hwl _ _ _⟩
end Go.Proofs.YtibcbaghgpemfaaGreatDoor
namespace Go.Proofs.YtibcbaghgpemfaaGreatDoor
open Go.RowKit Syn Fr
def respF (mt : Bytes) (z : Int) (f4 : Out) : Out :=
 if f4.2 ≠ 0 then ((0,0),f4.2) else if mt = [72,69,65,68] ∨ (100 ≤ z ∧ z ≤ 199) ∨ z = 204 ∨ z = 304 then ((1,0),0) else f4
set_option maxRecDepth 100000 in
set_option maxHeartbeats 16000000 in
theorem of_response (L : List (Bytes × Bytes)) (mt : Bytes) (z : Int) (A : Option Addr) (cap : Nat) (w : World) (hF : Few L) (hR : Rd w 2 (.slice A L.length cap) L.length (prs L)) :
  Calls Tryz.prog 58 #[.string (str mt),.agg #[.int .i64 z,.slice A L.length cap]] w fun e w' => e = .returned (.tuple #[frameV (respF mt z (frame 4 L)),errV (respF mt z (frame 4 L)).2]) ∧ Below w.heap.size w w':=by
 obtain ⟨G,hG⟩ : ∃ G,w.heap.size = G:=⟨_,rfl⟩
 have hO:=Hj (fun w (h : Rd w 2 (.slice A L.length cap) L.length (prs L)) => of_frame L _ w hF h); generalize frame 4 L = f4 at *; replace hR:=Hj hR; go_enter Tryz.func58,Tryz.ntmps58
 go_wp2_with fail
 have hX:=(Blk.new w 57 #[.int .i64 z,.slice A L.length cap]).alloc (.cells #[.int .i64 0,.int .i64 0] 103); have hA:=Blk.new (w.alloc (.cells #[.int .i64 z,.slice A L.length cap] 57)) 103 #[.int .i64 0,.int .i64 0]; have hB0:=((Below.refl w.heap.size w).alloc (Nat.le_refl _) (.cells #[.int .i64 z,.slice A L.length cap] 57)).alloc (by rw [alloc_size']; omega) (.cells #[.int .i64 0,.int .i64 0] 103)
 rw [alloc_size',hG] at hA
 rw [hG] at hX
 generalize (w.alloc (.cells #[.int .i64 z,.slice A L.length cap] 57)).alloc (.cells #[.int .i64 0,.int .i64 0] 103) = w2 at *; have hR2:=hR.out.below hB0; refine (hO.out _ hR2).mono ?_
 rintro e w3 ⟨rfl,hb3⟩
 have hK:=hA.below hb3; have hX3:=hX.below hb3; have hX4:=hX3.alloc (.cells #[.int .i64 (f4.1.1 : Int),.int .i64 (f4.1.2 : Int)] 103); have hB3:=Below.next hB0 hB0.size hb3; have c0 : w3.cell? ⟨G + 1,0,none⟩ = some (.int .i64 0):=hK.cell 0
 have c1 : w3.cell? ⟨G + 1,1,none⟩ = some (.int .i64 0):=hK.cell 1
 have g0:=hK.frozen 0; have g1:=hK.frozen 1; have x0 : (w3.alloc (.cells #[.int .i64 (f4.1.1 : Int),.int .i64 (f4.1.2 : Int)] 103)).cell? ⟨G,0,none⟩ = some (.int .i64 z):=hX4.cell 0
 have hGl : G + 1 < w3.heap.size:=hK.lt
 have hwl:=hB3.size; replace hK:=Hj hK; replace hB3:=Hj hB3; clear hb3 hR2 hA hB0 hX hX3 hX4; rw [show frameV f4 = .agg #[.int .i64 (f4.1.1 : Int),.int .i64 (f4.1.2 : Int)] from rfl]
 by_cases he : f4.2 = 0
 ·rw [he,show errV 0 = .nilIface from rfl]
  by_cases hH : mt = [72,69,65,68]
  ·have hq : ((str mt).toList == [72,69,65,68]) = true:=by rw [str_toList,hH]; decide
   have hres:=Hj (show respF mt z f4 = ((1,0),0) by unfold respF; rw [if_neg (by omega),if_pos (.inl hH)])
   replace hH:=Hj hH; go_wp2; exact ret_blk rfl rfl rfl ((hK.out.two _ _).alloc _) Tryz.underlying103 rfl (by kernel_rfl) ⟨by first | rfl | (rw [hres.out]; rfl),by first | exact two_alloc hG hB3.out hwl _ _ _ | exact two_alloc' hG hB3.out hwl _ _ _⟩
  ·have hq : ((str mt).toList == [72,69,65,68]) = false:=by rw [str_toList,beq_eq_false_iff_ne]; exact hH
   by_cases h1 : 100 ≤ z
   ·by_cases h2 : z ≤ 199
    ·have hres:=Hj (show respF mt z f4 = ((1,0),0) by unfold respF; rw [if_neg (by omega),if_pos (.inr (.inl ⟨h1,h2⟩))])
     replace hH:=Hj hH; go_wp2; exact ret_blk rfl rfl rfl ((hK.out.two _ _).alloc _) Tryz.underlying103 rfl (by kernel_rfl) ⟨by first | rfl | (rw [hres.out]; rfl),by first | exact two_alloc hG hB3.out hwl _ _ _ | exact two_alloc' hG hB3.out hwl _ _ _⟩
    ·by_cases h3 : z = 204
     ·have hres:=Hj (show respF mt z f4 = ((1,0),0) by unfold respF; rw [if_neg (by omega),if_pos (.inr (.inr (.inl h3)))])
      have hz3 : (z == 204) = true:=by rw [h3]; rfl
      replace hH:=Hj hH; replace h3:=Hj h3; go_wp2; exact ret_blk rfl rfl rfl ((hK.out.two _ _).alloc _) Tryz.underlying103 rfl (by kernel_rfl) ⟨by first | rfl | (rw [hres.out]; rfl),by first | exact two_alloc hG hB3.out hwl _ _ _ | exact two_alloc' hG hB3.out hwl _ _ _⟩
     ·have hz3 : (z == 204) = false:=beq_false_of_ne h3
      by_cases h5 : z = 304
      ·have hres:=Hj (show respF mt z f4 = ((1,0),0) by unfold respF; rw [if_neg (by omega),if_pos (.inr (.inr (.inr h5)))])
       have hz5 : (z == 304) = true:=by rw [h5]; rfl
       replace hH:=Hj hH; replace h3:=Hj h3; replace h5:=Hj h5; go_wp2; exact ret_blk rfl rfl rfl ((hK.out.two _ _).alloc _) Tryz.underlying103 rfl (by kernel_rfl) ⟨by first | rfl | (rw [hres.out]; rfl),by first | exact two_alloc hG hB3.out hwl _ _ _ | exact two_alloc' hG hB3.out hwl _ _ _⟩
      ·have hz5 : (z == 304) = false:=beq_false_of_ne h5
       have hres:=Hj (show respF mt z f4 = f4 by unfold respF; rw [if_neg (by omega),if_neg (by rintro (h | h | h | h); exact hH h; exact h2 h.2; exact h3 h; exact h5 h)])
       replace hH:=Hj hH; replace h3:=Hj h3; replace h5:=Hj h5; (go_wp2; exact ret_blk rfl rfl rfl ((hK.out.two _ _).alloc _) Tryz.underlying103 rfl (by kernel_rfl) ⟨by rw [hres.out,he]; rfl,by first | exact two_alloc hG hB3.out hwl _ _ _ | exact two_alloc' hG hB3.out hwl _ _ _⟩)
   ·have h3 : z ≠ 204:=by omega
    have h5 : z ≠ 304:=by omega
    have hz3 : (z == 204) = false:=beq_false_of_ne h3
    have hz5 : (z == 304) = false:=beq_false_of_ne h5
    have hres:=Hj (show respF mt z f4 = f4 by unfold respF; rw [if_neg (by omega),if_neg (by rintro (h | h | h | h); exact hH h; exact h1 h.1; exact h3 h; exact h5 h)])
    replace hH:=Hj hH; replace h3:=Hj h3; replace h5:=Hj h5; (go_wp2; exact ret_blk rfl rfl rfl ((hK.out.two _ _).alloc _) Tryz.underlying103 rfl (by kernel_rfl) ⟨by rw [hres.out,he]; rfl,by first | exact two_alloc hG hB3.out hwl _ _ _ | exact two_alloc' hG hB3.out hwl _ _ _⟩)
 ·have hres:=Hj (show respF mt z f4 = ((0,0),f4.2) by unfold respF; rw [if_pos he])
  have hev : ∃ n : Int,errV f4.2 = .iface 76 (.int .i64 n):=⟨f4.2,by unfold errV; rw [if_neg he]⟩
  obtain ⟨n,hev⟩:=hev
  have hev2:=Hj hev; rw [hev]
  clear hev; go_wp2; exact ret_blk rfl rfl rfl ((hK.out.two _ _).alloc _) Tryz.underlying103 rfl (by kernel_rfl) ⟨by rw [hres.out,hev2.out]; rfl,by first | exact two_alloc hG hB3.out hwl _ _ _ | exact two_alloc' hG hB3.out hwl _ _ _⟩
end Go.Proofs.YtibcbaghgpemfaaGreatDoor
namespace Go.Proofs.YtibcbaghgpemfaaGreatDoor
open Go.RowKit Syn Fr
theorem frame_shape (L : List (Bytes × Bytes)) : (∀ K,frame K L = ((K,0),0)) ∨ (∃ f : Out,(∀ K,frame K L = f) ∧ ((f.2 ≠ 0 ∧ f.1 = (0,0)) ∨ f = ((3,0),0) ∨ ∃ n,n ≤ 65536 ∧ f = ((2,n),0))):=by
 by_cases n1 : 0 < (allV L cl).length
 ·right
  by_cases n2 : 0 < (allV L te).length
  ·exact ⟨_,fun K => frame_both n1 n2,.inl ⟨by decide,rfl⟩⟩
  ·refine ⟨_,fun K => frame_cl n1 n2,?_⟩
   match elemsGo [] (allV L cl) with
   | none => exact .inl ⟨by decide,rfl⟩
   | some [] => exact .inl ⟨by decide,rfl⟩
   | some (x :: r) =>
    rw [frameL_cons]
    split
    ·unfold lengthOf
     split
     ·split
      ·exact .inl ⟨by decide,rfl⟩
      ·exact .inr (.inr ⟨_,by omega,rfl⟩)
     ·exact .inl ⟨by decide,rfl⟩
    ·exact .inl ⟨by decide,rfl⟩
 ·by_cases n2 : 0 < (allV L te).length
  ·right
   refine ⟨_,fun K => frame_te n1 n2,?_⟩
   match elemsGo [] (allV L te) with
   | none => exact .inl ⟨by decide,rfl⟩
   | some [] => exact .inl ⟨by decide,rfl⟩
   | some [c] =>
    by_cases hc : Syn.lower c = ch
    ·exact .inr (.inl (if_pos hc))
    ·rw [show frameC (some [c]) = ((0,0),32) from if_neg hc]
     exact .inl ⟨by decide,rfl⟩
   | some (_ :: _ :: _) => exact .inl ⟨by show (32 : Int) ≠ 0; decide,rfl⟩
  ·exact .inl fun K => frame_none n1 n2
theorem frame_swap2 (L : List (Bytes × Bytes)) : (frame 4 L = ((4,0),0) ∧ frame 1 L = ((1,0),0)) ∨ ((frame 1 L).1.1 ≠ 1 ∧ frame 4 L = frame 1 L):=by
 rcases frame_shape L with h | ⟨f,h,hf⟩
 ·exact .inl ⟨h 4,h 1⟩
 ·right
  rw [h 4,h 1]
  refine ⟨?_,rfl⟩
  rcases hf with ⟨-,h⟩ | rfl | ⟨n,-,rfl⟩
  ·rw [h]; decide
  ·decide
  ·show 2 ≠ 1; decide
set_option maxRecDepth 100000 in
set_option maxHeartbeats 16000000 in
theorem ref_response (L : List (Bytes × Bytes)) (mt : Bytes) (z : Int) (A : Option Addr) (cap : Nat) (w : World) (hF : Few L) (hR : Rd w 2 (.slice A L.length cap) L.length (prs L)) :
  Calls Tryz.prog 142 #[.string (str mt),.agg #[.int .i64 z,.slice A L.length cap]] w fun e w' => e = .returned (.tuple #[frameV (respF mt z (frame 4 L)),.int .i64 (respF mt z (frame 4 L)).2]) ∧ Below w.heap.size w w':=by
 obtain ⟨G,hG⟩ : ∃ G,w.heap.size = G:=⟨_,rfl⟩
 have hO:=Hj (fun w (h : Rd w 2 (.slice A L.length cap) L.length (prs L)) => rof_frame L _ w hF h); have hsw:=frame_swap2 L; generalize frame 4 L = f4 at *; generalize frame 1 L = f1 at *; replace hR:=Hj hR; go_enter Tryz.func142,Tryz.ntmps142
 go_wp2_with fail
 have hX:=(Blk.new w 62 #[.int .i64 z,.slice A L.length cap]).alloc (.cells #[.int .i64 0,.int .i64 0] 189); have hA:=Blk.new (w.alloc (.cells #[.int .i64 z,.slice A L.length cap] 62)) 189 #[.int .i64 0,.int .i64 0]; have hB0:=((Below.refl w.heap.size w).alloc (Nat.le_refl _) (.cells #[.int .i64 z,.slice A L.length cap] 62)).alloc (by rw [alloc_size']; omega) (.cells #[.int .i64 0,.int .i64 0] 189)
 rw [alloc_size',hG] at hA
 rw [hG] at hX
 generalize (w.alloc (.cells #[.int .i64 z,.slice A L.length cap] 62)).alloc (.cells #[.int .i64 0,.int .i64 0] 189) = w2 at *; have hR2:=hR.out.below hB0; refine (hO.out _ hR2).mono ?_
 rintro e w3 ⟨rfl,hb3⟩
 have hK:=hA.below hb3; have hX3:=hX.below hb3; have hX4:=hX3.alloc (.cells #[.int .i64 (f1.1.1 : Int),.int .i64 (f1.1.2 : Int)] 189); have hB3:=Below.next hB0 hB0.size hb3; have c0 : w3.cell? ⟨G + 1,0,none⟩ = some (.int .i64 0):=hK.cell 0
 have c1 : w3.cell? ⟨G + 1,1,none⟩ = some (.int .i64 0):=hK.cell 1
 have g0:=hK.frozen 0; have g1:=hK.frozen 1; have x0 : (w3.alloc (.cells #[.int .i64 (f1.1.1 : Int),.int .i64 (f1.1.2 : Int)] 189)).cell? ⟨G,0,none⟩ = some (.int .i64 z):=hX4.cell 0
 have hGl : G + 1 < w3.heap.size:=hK.lt
 have hwl:=hB3.size; replace hK:=Hj hK; replace hB3:=Hj hB3; replace hsw:=Hj hsw; clear hb3 hR2 hA hB0 hX hX3 hX4; rw [show frameV f1 = .agg #[.int .i64 (f1.1.1 : Int),.int .i64 (f1.1.2 : Int)] from rfl]
 by_cases he : f1.2 = 0
 ·rw [he]
  have he4 : f4.2 = 0:=by
   rcases hsw.out with ⟨h,-⟩ | ⟨-,h⟩
   ·rw [h]
   ·rw [h]; exact he
  replace he:=Hj he; by_cases hH : mt = [72,69,65,68]
  ·have hq : ((str mt).toList == [72,69,65,68]) = true:=by rw [str_toList,hH]; decide
   have hres:=Hj (show respF mt z f4 = ((1,0),0) by unfold respF; rw [if_neg (by omega),if_pos (.inl hH)])
   replace hH:=Hj hH; go_wp2; exact ret_blk rfl rfl rfl ((hK.out.two _ _).alloc _) Tryz.underlying189 rfl (by kernel_rfl) ⟨by first | rfl | (rw [hres.out]; rfl),by first | exact two_alloc hG hB3.out hwl _ _ _ | exact two_alloc' hG hB3.out hwl _ _ _⟩
  ·have hq : ((str mt).toList == [72,69,65,68]) = false:=by rw [str_toList,beq_eq_false_iff_ne]; exact hH
   by_cases h1 : 100 ≤ z
   ·by_cases h2 : z ≤ 199
    ·have hres:=Hj (show respF mt z f4 = ((1,0),0) by unfold respF; rw [if_neg (by omega),if_pos (.inr (.inl ⟨h1,h2⟩))])
     replace hH:=Hj hH; go_wp2; exact ret_blk rfl rfl rfl ((hK.out.two _ _).alloc _) Tryz.underlying189 rfl (by kernel_rfl) ⟨by first | rfl | (rw [hres.out]; rfl),by first | exact two_alloc hG hB3.out hwl _ _ _ | exact two_alloc' hG hB3.out hwl _ _ _⟩
    ·by_cases h3 : z = 204
     ·have hres:=Hj (show respF mt z f4 = ((1,0),0) by unfold respF; rw [if_neg (by omega),if_pos (.inr (.inr (.inl h3)))])
      have hz3 : (z == 204) = true:=by rw [h3]; rfl
      replace hH:=Hj hH; replace h3:=Hj h3; go_wp2; exact ret_blk rfl rfl rfl ((hK.out.two _ _).alloc _) Tryz.underlying189 rfl (by kernel_rfl) ⟨by first | rfl | (rw [hres.out]; rfl),by first | exact two_alloc hG hB3.out hwl _ _ _ | exact two_alloc' hG hB3.out hwl _ _ _⟩
     ·have hz3 : (z == 204) = false:=beq_false_of_ne h3
      by_cases h5 : z = 304
      ·have hres:=Hj (show respF mt z f4 = ((1,0),0) by unfold respF; rw [if_neg (by omega),if_pos (.inr (.inr (.inr h5)))])
       have hz5 : (z == 304) = true:=by rw [h5]; rfl
       replace hH:=Hj hH; replace h3:=Hj h3; replace h5:=Hj h5; go_wp2; exact ret_blk rfl rfl rfl ((hK.out.two _ _).alloc _) Tryz.underlying189 rfl (by kernel_rfl) ⟨by first | rfl | (rw [hres.out]; rfl),by first | exact two_alloc hG hB3.out hwl _ _ _ | exact two_alloc' hG hB3.out hwl _ _ _⟩
      ·have hz5 : (z == 304) = false:=beq_false_of_ne h5
       have hn:=Hj (show ¬(mt = [72,69,65,68] ∨ (100 ≤ z ∧ z ≤ 199) ∨ z = 204 ∨ z = 304) by rintro (h | h | h | h); exact hH h; exact h2 h.2; exact h3 h; exact h5 h)
       replace hH:=Hj hH; replace h3:=Hj h3; replace h5:=Hj h5; rcases hsw.out with ⟨e4,e1⟩ | ⟨hk,e4⟩
       ·have hres:=Hj (show respF mt z f4 = ((4,0),0) by unfold respF; rw [if_neg (by omega),if_neg hn.out,e4])
        have hk1 : ((f1.1.1 : Int) == 1) = true:=by rw [e1]; rfl
        replace e4:=Hj e4; replace e1:=Hj e1; go_wp2; exact ret_blk rfl rfl rfl ((hK.out.two _ _).alloc _) Tryz.underlying189 rfl (by kernel_rfl) ⟨by first | rfl | (rw [hres.out]; rfl),by first | exact two_alloc hG hB3.out hwl _ _ _ | exact two_alloc' hG hB3.out hwl _ _ _⟩
       ·have hres:=Hj (show respF mt z f4 = f1 by unfold respF; rw [if_neg (by omega),if_neg hn.out,e4])
        have hk1 : ((f1.1.1 : Int) == 1) = false:=beq_false_of_ne (by omega)
        replace e4:=Hj e4; go_wp2; exact ret_blk rfl rfl rfl ((hK.out.two _ _).alloc _) Tryz.underlying189 rfl (by kernel_rfl) ⟨by rw [hres.out,he.out]; rfl,by first | exact two_alloc hG hB3.out hwl _ _ _ | exact two_alloc' hG hB3.out hwl _ _ _⟩
   ·have h3 : z ≠ 204:=by omega
    have h5 : z ≠ 304:=by omega
    have hz3 : (z == 204) = false:=beq_false_of_ne h3
    have hz5 : (z == 304) = false:=beq_false_of_ne h5
    have hn:=Hj (show ¬(mt = [72,69,65,68] ∨ (100 ≤ z ∧ z ≤ 199) ∨ z = 204 ∨ z = 304) by rintro (h | h | h | h); exact hH h; exact h1 h.1; exact h3 h; exact h5 h)
    replace hH:=Hj hH; replace h3:=Hj h3; replace h5:=Hj h5; rcases hsw.out with ⟨e4,e1⟩ | ⟨hk,e4⟩
    ·have hres:=Hj (show respF mt z f4 = ((4,0),0) by unfold respF; rw [if_neg (by omega),if_neg hn.out,e4])
     have hk1 : ((f1.1.1 : Int) == 1) = true:=by rw [e1]; rfl
     replace e4:=Hj e4; replace e1:=Hj e1; go_wp2; exact ret_blk rfl rfl rfl ((hK.out.two _ _).alloc _) Tryz.underlying189 rfl (by kernel_rfl) ⟨by first | rfl | (rw [hres.out]; rfl),by first | exact two_alloc hG hB3.out hwl _ _ _ | exact two_alloc' hG hB3.out hwl _ _ _⟩
    ·have hres:=Hj (show respF mt z f4 = f1 by unfold respF; rw [if_neg (by omega),if_neg hn.out,e4])
     have hk1 : ((f1.1.1 : Int) == 1) = false:=beq_false_of_ne (by omega)
     replace e4:=Hj e4; go_wp2; exact ret_blk rfl rfl rfl ((hK.out.two _ _).alloc _) Tryz.underlying189 rfl (by kernel_rfl) ⟨by rw [hres.out,he.out]; rfl,by first | exact two_alloc hG hB3.out hwl _ _ _ | exact two_alloc' hG hB3.out hwl _ _ _⟩
 ·have hbe : f4.2 = f1.2:=by
   rcases hsw.out with ⟨-,h⟩ | ⟨-,h⟩
   ·rw [h] at he; exact absurd rfl he
   ·rw [h]
  have hres:=Hj (show respF mt z f4 = ((0,0),f1.2) by unfold respF; rw [hbe,if_pos he])
  have hne : (f1.2 == 0) = false:=beq_false_of_ne he
  have hne2 : (f1.2 != 0) = true:=by rw [bne,hne]; rfl
  replace he:=Hj he; replace hbe:=Hj hbe; go_wp2; exact ret_blk rfl rfl rfl ((hK.out.two _ _).alloc _) Tryz.underlying189 rfl (by kernel_rfl) ⟨by rw [hres.out]; rfl,by first | exact two_alloc hG hB3.out hwl _ _ _ | exact two_alloc' hG hB3.out hwl _ _ _⟩
end Go.Proofs.YtibcbaghgpemfaaGreatDoor
