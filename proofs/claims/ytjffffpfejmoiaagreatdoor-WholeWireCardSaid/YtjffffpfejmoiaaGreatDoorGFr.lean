import Derived.Test.YtjffffpfejmoiaaGreatDoorGHo
import Derived.Test.YtjffffpfejmoiaaGreatDoorGLow
import Derived.Laws.ResultCell
namespace Go.Proofs.YtjffffpfejmoiaaGreatDoor
open Go.RowKit Syn Fr
theorem number_zero (x : List UInt8) : (number x).2 = 0 ∨ ((number x).1 = 0 ∧ ((number x).2 = 2 ∨ (number x).2 = 5)):=by
 unfold number
 split
 ·split
  ·right; exact ⟨rfl,.inr rfl⟩
  ·left; rfl
 ·right; exact ⟨rfl,.inl rfl⟩
theorem frnumber_any (s : ByteArray) (w : World) (hs : s.size ≤ maxLen) :
  Calls Tryz.prog 50 #[.string s] w fun e w' => e = .returned (.tuple #[.int .i64 ((number (bs s)).1 : Int),.bool (decide ((number (bs s)).2 = 0))]) ∧ ∃ n,w' = w.drewN n:=by
 have hN:=fun w => number_any s w hs
 rcases number_zero (bs s) with h | ⟨-,h | h⟩
 ·rw [h] at hN ⊢
  generalize ((number (bs s)).1 : Int) = a at *; rw [show errV 0 = .nilIface from rfl] at hN
  replace hN:=Hj hN; go_enter Tryz.func50,Tryz.ntmps50
  go_wp2_with fail
  refine (hN.out _).mono ?_
  rintro e w' ⟨rfl,rfl⟩
  go_wp2_with fail
  go_quiet (fail)
  go_wp2; go_ret2
  exact ⟨rfl,nq,rfl⟩
 ·rw [h] at hN ⊢
  generalize ((number (bs s)).1 : Int) = a at *; rw [show errV 2 = .iface 57 (.int .i64 2) from rfl] at hN
  replace hN:=Hj hN; go_enter Tryz.func50,Tryz.ntmps50
  go_wp2_with fail
  refine (hN.out _).mono ?_
  rintro e w' ⟨rfl,rfl⟩
  go_wp2_with fail
  go_quiet (fail)
  go_wp2; go_ret2
  exact ⟨rfl,nq,rfl⟩
 ·rw [h] at hN ⊢
  generalize ((number (bs s)).1 : Int) = a at *; rw [show errV 5 = .iface 57 (.int .i64 5) from rfl] at hN
  replace hN:=Hj hN; go_enter Tryz.func50,Tryz.ntmps50
  go_wp2_with fail
  refine (hN.out _).mono ?_
  rintro e w' ⟨rfl,rfl⟩
  go_wp2_with fail
  go_quiet (fail)
  go_wp2; go_ret2
  exact ⟨rfl,nq,rfl⟩
end Go.Proofs.YtjffffpfejmoiaaGreatDoor
namespace Go.Proofs.YtjffffpfejmoiaaGreatDoor
open Go.RowKit Syn Fr
theorem push_strs {ops : Array Oper} {rest : List Oper} {o : Oper} {a : Act} {Q : Exit → Act → World → Prop} {w : World} (s x : Operand)
  (hgd : o.guard = none) (ho : o.op = .call { callee:=.builtin .append,args:=#[s,x],argTypes:=#[22,22] })
  {B n m c b : Nat} {v : Value} {xs news : List Value} (hs : a.eval s = v) (hown : Own w B 9 1 v n xs) (hx : a.eval x = .slice (some ⟨b,0,none⟩) m c) (hl : news.length = m)
  (hnews : ∀ j u,news[j]? = some u → w.cell? ⟨b,j,none⟩ = some u) (h1 : ∀ u ∈ news,u.oneCell' = true) (hn : n + m ≤ 10000000000) (hbase : B ≤ w.heap.size)
  (h : ∀ v' w',Own w' B 9 1 v' (n + m) (xs ++ news) → Below B w w' → wpList Tryz.prog ops Q rest (a.put o.dst v') w') : wpList Tryz.prog ops Q (o :: rest) a w:=by
 refine step_push 22 9 (.string ⟨#[]⟩) 1 16 s x hgd ho Tryz.underlying22 infoStr rfl (by decide) (by decide) hs hown hx (news:=news) (by omega) ?_ h1 hn hbase ?_
 ·intro j u hj
  have hadd : (⟨b,0,none⟩ : Addr).add j = ⟨b,j,none⟩:=by unfold Addr.add; split <;> simp_all
  rw [hadd]; exact hnews j u hj
 ·intro v' w' ho' hb _
  exact h v' w' ho' hb
theorem list_len {x : List UInt8} {l : List (List UInt8)} (h : Syn.list x = some l) : l.length ≤ x.length + 1:=by
 unfold Syn.list at h
 cases hp : parts 44 x with
 | none => rw [hp] at h; cases h
 | some p =>
  rw [hp] at h
  have e : full p = l:=by injection h
  have h1:=parts_len (s:=str x) (by rw [bs_str]; exact hp)
  rw [str_size] at h1
  rw [← e]; exact Nat.le_trans (List.length_filter_le _ _) h1
theorem strs_one (l : List Bytes) : ∀ u ∈ strs l,u.oneCell' = true:=by
 intro u hu; unfold strs at hu
 rw [List.mem_map] at hu
 obtain ⟨x,-,rfl⟩:=hu
 rfl
theorem strs_append (a b : List Bytes) : strs (a ++ b) = strs a ++ strs b:=by simp [strs]
theorem Own.two {w : World} {B n : Nat} {t : TypeId} {v : Value} {xs : List Value} (h : Own w B t 1 v n xs) :
  (v = .slice none 0 0 ∧ n = 0 ∧ xs = []) ∨ (∃ b c,v = .slice (some ⟨b,0,none⟩) n c ∧ n ≤ c ∧ xs.length = n ∧ b < w.heap.size ∧ ∀ j u,xs[j]? = some u → w.cell? ⟨b,j,none⟩ = some u):=by
 have hl:=h.1; rcases id h with ⟨-,⟨rfl,rfl⟩ | ⟨g,cap,cur,rfl,hg,hh,hnc,hr⟩⟩
 ·left; exact ⟨rfl,rfl,List.eq_nil_of_length_eq_zero (by simpa using hl)⟩
 ·right
  refine ⟨g,cap,rfl,hnc,by simpa using hl,?_,fun j u hu => ?_⟩
  ·rcases Nat.lt_or_ge g w.heap.size with h | h
   ·exact h
   ·rw [Array.getElem?_eq_none h] at hh; cases hh
  ·have:=World.ownsRow.cells h (g:=g) rfl j u hu
   have e : (⟨g,0,none⟩ : Addr).add j = ⟨g,j,none⟩:=by unfold Addr.add; split <;> simp_all
   rwa [e] at this
set_option maxRecDepth 100000 in
set_option maxHeartbeats 8000000 in
theorem elements_any (L : List (Bytes × Bytes)) (name : Bytes) (v : Value) (w : World) (hF : Few L) (hn : name.length ≤ 1000) (hR : Rd w 2 v L.length (prs L)) :
  Calls Tryz.prog 82 #[v,.string (str name)] w fun e w' => ∃ o,e = .returned (.tuple #[o,.int .i64 ((allV L name).length : Int),.bool (elemsGo [] (allV L name)).isSome]) ∧ PartsOut w' w.heap.size o (elemsGo [] (allV L name)) ∧ Below w.heap.size w w':=by
 have hA : ∀ w,Rd w 2 v L.length (prs L) → Calls Tryz.prog 41 #[v,.string (str name)] w fun e w' => ∃ o,e = .returned o ∧ Own w' w.heap.size 9 1 o (allV L name).length (strs (allV L name)) ∧ Below w.heap.size w w':=fun w h => all_anyF L name v w hF hn h
 have hvl : ∀ x ∈ allV L name,x.length ≤ 5000:=fun x hx => by
  obtain ⟨p,hp,rfl⟩:=allV_mem hx
  exact (hF.short p hp).2
 have hml : (allV L name).length ≤ 100:=Nat.le_trans (allV_length L name) hF.len
 clear hF; generalize allV L name = V at *; replace hA:=Hj hA; replace hvl:=Hj hvl; obtain ⟨A,cap,rfl,hcap,-,-⟩:=id hR; replace hR:=Hj hR; go_enter Tryz.func82,Tryz.ntmps82
 go_wp2_with fail
 refine (hA.out _ hR.out).mono ?_
 rintro e w1 ⟨vs,rfl,hvs,hb1⟩
 have hV : Rd w1 1 vs V.length (strs V):=Rd.own hvs
 obtain ⟨A1,c1,rfl,hc1,-,-⟩:=id hV; replace hV:=Hj hV; replace hb1:=Hj hb1; clear hvs; go_wp2; go_loopw [7,18] (fun o i wr => ∃ (k : Nat) (acc : List Bytes),i = .int .i64 (k : Int) ∧ k ≤ V.length ∧ acc.length ≤ 5001 * k ∧ Hid (elemsGo [] V = elemsGo acc (V.drop k)) ∧ Hid (Own wr w1.heap.size 9 1 o acc.length (strs acc)) ∧ Hid (Below w1.heap.size w1 wr)) (fun _ i _ => V.length - (intOf i).toNat)
 case atStart => exact ⟨0,[],rfl,by omega,by simp,rfl,own_nil _ _ _ _,Below.refl _ _⟩
 case round =>
  obtain ⟨k,acc,rfl,hk,hac,hg,ho,hB⟩:=hrel
  have hBw:=hB.out.size; by_cases hlt : k < V.length
  ·obtain ⟨A',cap',e',-,-,r'⟩:=hV.out.below hB.out
   cases e'; obtain ⟨b1,o1,rfl,hl1,x1⟩:=r' (by omega)
   have d1 : wr.cell? ⟨b1,o1 + k,none⟩ = some (.string (str V[k])):=x1 k _ (strs_at hlt)
   have hst:=hg.out.trans ((congrArg (elemsGo acc) (List.drop_eq_getElem_cons hlt)).trans (elemsGo_cons acc V[k] (V.drop (k + 1)))); have hyl:=hvl.out V[k] (List.getElem_mem hlt); clear x1 r' hg; generalize V[k] = y at *; have hli : ∀ w,Calls Tryz.prog 107 #[.string (str y)] w fun e w' => ∃ v,e = .returned (.tuple #[v,errV (errO (Syn.list y))]) ∧ PartsOut w' w.heap.size v (Syn.list y) ∧ Below w.heap.size w w':=fun w => list_any (str y) w (by rw [str_size]; omega)
   cases hly : Syn.list y with
   | none =>
    rw [hly] at hli hst
    have hf : Hid (elemsGo [] V = none):=Hj hst
    clear hst; replace hli:=Hj hli; go_wp2_with fail
    refine (hli.out _).mono ?_
    rintro e w2 ⟨v2,rfl,-,hb2⟩
    have hB2:=Hj (Below.next hb1.out hb1.out.size (hB.out.trans (hb2.mono hBw))); clear hb2; rw [show errV (errO (none : Option (List (List UInt8)))) = .iface 57 (.int .i64 2) from rfl]
    go_wp2; go_ret3
    exact ⟨_,by rw [hf.out]; rfl,by rw [hf.out]; rfl,hB2.out⟩
   | some l =>
    have hll:=list_len hly; rw [hly] at hli hst
    replace hst:=Hj hst; replace hly:=Hj hly; replace hli:=Hj hli; go_wp2_with fail
    refine (hli.out _).mono ?_
    rintro e w2 ⟨v2,rfl,hv2,hb2⟩
    have hB2:=Hj (hB.out.trans (hb2.mono hBw)); have ho2:=Hj (own_below ho.out hb2); have hBw2:=hB2.out.size; clear hb2 d1; rw [show errV (errO (some l)) = .nilIface from rfl]
    rcases Own.two (show Own w2 wr.heap.size 9 1 v2 l.length (strs l) from hv2) with ⟨rfl,hn0,-⟩ | ⟨b2,c2,rfl,-,hxl,hbl,hcell⟩
    ·have hl0 : l = []:=List.eq_nil_of_length_eq_zero hn0
     subst hl0; clear hv2 hn0; rw [List.append_nil] at hst
     rcases Own.two ho2.out with ⟨rfl,ha0,-⟩ | ⟨b4,c4,rfl,hc4,-,-,-⟩
     ·go_wp2
      go_roundw
      case rel => exact ⟨k + 1,acc,by go_num,by omega,by omega,hst,ho2,hB2⟩
      case measure => simp [intOf]; omega
     ·go_wp2
      go_roundw
      case rel => exact ⟨k + 1,acc,by go_num,by omega,by omega,hst,ho2,hB2⟩
      case measure => simp [intOf]; omega
    ·replace hcell:=Hj hcell
     clear hv2; go_wp2_with (at_builtin; refine push_strs _ _ rfl rfl rfl ho2.out rfl hxl hcell.out (strs_one l) (by omega) hBw2 ?_; intro v3 w3 ho3 hb3; replace ho3:=Hj ho3; have hB3:=Hj (hB2.out.trans hb3); clear hb3)
     go_roundw
     case rel => exact ⟨k + 1,acc ++ l,by go_num,by omega,by rw [List.length_append]; omega,hst,Hj (by rw [strs_append,List.length_append]; exact ho3.out),hB3⟩
     case measure => simp [intOf]; omega
  ·obtain rfl : k = V.length:=by omega
   have hf : Hid (elemsGo [] V = some acc):=Hj (by rw [hg.out,List.drop_length]; rfl)
   have hown:=Hj (own_mono ho.out hb1.out.size); have hBf:=Hj (Below.next hb1.out hb1.out.size hB.out); go_wp2; go_ret3
   exact ⟨_,by rw [hf.out]; rfl,by rw [hf.out]; exact hown.out,hBf.out⟩
end Go.Proofs.YtjffffpfejmoiaaGreatDoor
namespace Go.Proofs.YtjffffpfejmoiaaGreatDoor
open Go.RowKit Syn Fr
def frameV (o : Out) : Value:=.agg #[.int .i64 (o.1.1 : Int),.int .i64 (o.1.2 : Int)]
theorem isEmpty_pos {α : Type} {l : List α} (h : 0 < l.length) : l.isEmpty = false:=by cases l with | nil => simp at h | cons => rfl
theorem isEmpty_zero {α : Type} {l : List α} (h : ¬ 0 < l.length) : l = []:=List.eq_nil_of_length_eq_zero (by omega)
section
variable {K : Nat} {L : List (Bytes × Bytes)}
theorem frame_both (h1 : 0 < (allV L cl).length) (h2 : 0 < (allV L te).length) : frame K L = ((0,0),31):=by
 unfold frame; rw [isEmpty_pos h1,isEmpty_pos h2]; rfl
theorem frame_te (h1 : ¬ 0 < (allV L cl).length) (h2 : 0 < (allV L te).length) : frame K L = frameC (elemsGo [] (allV L te)):=by
 unfold frame; rw [isEmpty_zero h1,isEmpty_pos h2]; rfl
theorem frame_none (h1 : ¬ 0 < (allV L cl).length) (h2 : ¬ 0 < (allV L te).length) : frame K L = ((K,0),0):=by
 unfold frame; rw [isEmpty_zero h1,isEmpty_zero h2]; rfl
theorem frame_cl (h1 : 0 < (allV L cl).length) (h2 : ¬ 0 < (allV L te).length) : frame K L = frameL (elemsGo [] (allV L cl)):=by
 unfold frame; rw [isEmpty_pos h1,isEmpty_zero h2]; rfl
end
theorem frameC_long {l : List Bytes} (h : l.length ≠ 1) : frameC (some l) = ((0,0),32):=by
 match l,h with
 | [],_ => rfl
 | [_],h => exact absurd rfl h
 | _ :: _ :: _,_ => rfl
theorem all_eq_take {x : Bytes} {l : List Bytes} {k : Nat} (h : k < l.length) (ha : (l.take k).all (· == x) = true) (hx : l[k] = x) : (l.take (k + 1)).all (· == x) = true:=by
 rw [List.take_succ_eq_append_getElem h,List.all_append,ha,hx]; simp
theorem not_all {x : Bytes} {l : List Bytes} {k : Nat} (h : k < l.length) (hx : l[k] ≠ x) : l.all (· == x) = false:=by
 rw [List.all_eq_false]; exact ⟨l[k],List.getElem_mem h,by simpa using hx⟩
theorem frameL_cons (x : Bytes) (r : List Bytes) : frameL (some (x :: r)) = if (x :: r).all (· == x) then lengthOf x else ((0,0),30):=by
 rw [List.all_cons,beq_self_eq_true,Bool.true_and]; rfl
theorem list_most {x : Bytes} {l : List Bytes} (h : Syn.list x = some l) : ∀ y ∈ l,y.length ≤ x.length:=by
 unfold Syn.list at h
 cases hp : parts 44 x with
 | none => rw [hp] at h; cases h
 | some p =>
  rw [hp] at h
  have e : full p = l:=by injection h
  intro y hy; rw [← e] at hy
  exact (parts_most hp).2 y (List.mem_filter.1 (show y ∈ p.filter _ from hy)).1
theorem elems_most {m : Nat} : ∀ (V acc l : List Bytes),elemsGo acc V = some l → (∀ a ∈ acc,a.length ≤ m) → (∀ v ∈ V,v.length ≤ m) → ∀ x ∈ l,x.length ≤ m
 | [],acc,l,h,ha,_ => by rw [elemsGo] at h; cases h; exact ha
 | v :: r,acc,l,h,ha,hv => by
  rw [elemsGo_cons] at h
  split at h
  ·cases h
  ·next l2 hl =>
   refine elems_most r _ l h (fun a hm => ?_) (fun x hx => hv x (by simp [hx]))
   rw [List.mem_append] at hm
   rcases hm with hm | hm
   ·exact ha a hm
   ·exact Nat.le_trans (list_most hl a hm) (hv v (by simp))
theorem elems_len : ∀ (V acc l : List Bytes),elemsGo acc V = some l → (∀ v ∈ V,v.length ≤ 5000) → l.length ≤ acc.length + 5001 * V.length
 | [],acc,l,h,_ => by rw [elemsGo] at h; cases h; simp
 | v :: r,acc,l,h,hv => by
  rw [elemsGo_cons] at h
  split at h
  ·cases h
  ·next l2 hl =>
   have h1:=elems_len r _ l h (fun x hx => hv x (by simp [hx])); have h2:=list_len hl; have h3:=hv v (by simp); rw [List.length_append] at h1
   rw [List.length_cons]; omega
theorem elem_few {L : List (Bytes × Bytes)} {name : Bytes} {l : List Bytes} (hF : Few L) (h : elemsGo [] (allV L name) = some l) : l.length ≤ 600000:=by
 have h1:=elems_len _ _ _ h fun v hv => by
  obtain ⟨p,hp,rfl⟩:=allV_mem hv
  exact (hF.short p hp).2
 have h2:=allV_length L name; have h3:=hF.len; simp at h1; omega
theorem two_below' {w w1 : World} {G : Nat} (h : Below G w w1) (a b : Value) : Below G w ((w1.setCell ⟨G,0,none⟩ a).setCell ⟨G,1,none⟩ b) :=
 (h.setCell (p:=⟨G,0,none⟩) (Nat.le_refl _) a).setCell (p:=⟨G,1,none⟩) (Nat.le_refl _) b
theorem elem_short {L : List (Bytes × Bytes)} {name : Bytes} {l : List Bytes} (hF : Few L) (h : elemsGo [] (allV L name) = some l) : ∀ x ∈ l,x.length ≤ 5000 :=
 elems_most _ _ _ h (by simp) fun v hv => by
  obtain ⟨p,hp,rfl⟩:=allV_mem hv
  exact (hF.short p hp).2
set_option maxRecDepth 100000 in
set_option maxHeartbeats 16000000 in
theorem of_frame (L : List (Bytes × Bytes)) (v : Value) (w : World) (hF : Few L) (hR : Rd w 2 v L.length (prs L)) :
  Calls Tryz.prog 62 #[v] w fun e w' => e = .returned (.tuple #[frameV (frame 4 L),errV (frame 4 L).2]) ∧ Below w.heap.size w w':=by
 obtain ⟨G,hG⟩ : ∃ G,w.heap.size = G:=⟨_,rfl⟩
 have hE1 : ∀ w,Rd w 2 v L.length (prs L) → Calls Tryz.prog 82 #[v,.string ⟨#[99,111,110,116,101,110,116,45,108,101,110,103,116,104]⟩] w fun e w' => ∃ o,e = .returned (.tuple #[o,.int .i64 ((allV L cl).length : Int),.bool (elemsGo [] (allV L cl)).isSome]) ∧ PartsOut w' w.heap.size o (elemsGo [] (allV L cl)) ∧ Below w.heap.size w w':=fun w h => elements_any L cl v w hF (by decide) h
 have hE2 : ∀ w,Rd w 2 v L.length (prs L) → Calls Tryz.prog 82 #[v,.string ⟨#[116,114,97,110,115,102,101,114,45,101,110,99,111,100,105,110,103]⟩] w fun e w' => ∃ o,e = .returned (.tuple #[o,.int .i64 ((allV L te).length : Int),.bool (elemsGo [] (allV L te)).isSome]) ∧ PartsOut w' w.heap.size o (elemsGo [] (allV L te)) ∧ Below w.heap.size w w':=fun w h => elements_any L te v w hF (by decide) h
 have hes : ∀ name l,elemsGo [] (allV L name) = some l → (∀ x ∈ l,x.length ≤ 5000) ∧ l.length ≤ 600000:=fun name l h => ⟨elem_short hF h,elem_few hF h⟩
 have hff:=frame_both (K:=4) (L:=L); have hfc:=frame_te (K:=4) (L:=L); have hfn:=frame_none (K:=4) (L:=L); have hfl:=frame_cl (K:=4) (L:=L); have hs1:=hes cl; have hs2:=hes te; clear hes; have hm1 : (allV L cl).length ≤ 100:=Nat.le_trans (allV_length L cl) hF.len
 have hm2 : (allV L te).length ≤ 100:=Nat.le_trans (allV_length L te) hF.len
 generalize frame 4 L = fr at *; generalize allV L cl = V1 at *; generalize allV L te = V2 at *; obtain ⟨A,cap,rfl,hcap,-,-⟩:=id hR; replace hE1:=Hj hE1; replace hE2:=Hj hE2; replace hs1:=Hj hs1; replace hs2:=Hj hs2; replace hR:=Hj (hR.below ((Below.refl w.heap.size w).alloc (Nat.le_refl _) (.cells #[.int .i64 0,.int .i64 0] 69))); go_enter Tryz.func62,Tryz.ntmps62
 go_wp2_with fail
 have hK:=Blk.new w 69 #[.int .i64 0,.int .i64 0]; rw [hG] at hK
 have hb0:=(Below.refl G w).alloc (by omega) (.cells #[.int .i64 0,.int .i64 0] 69); generalize w.alloc (.cells #[.int .i64 0,.int .i64 0] 69) = w0 at *; refine (hE1.out _ hR.out).mono ?_
 rintro e w1 ⟨o1,rfl,hv1,hb1⟩
 have hR1:=Hj (hR.out.below hb1); have hb01:=hb0.trans (hb1.mono (by have:=hK.lt; omega))
 have hK1:=hK.below hb1; replace hb01:=Hj hb01; replace hK1:=Hj hK1; replace hv1:=Hj hv1; clear hb1 hK hb0; go_wp2_with fail
 refine (hE2.out _ hR1.out).mono ?_
 rintro e w2 ⟨o2,rfl,hv2,hb2⟩
 have hb02:=Hj (hb01.out.trans (hb2.mono (by have:=hK1.out.lt; omega)))
 have hK2:=hK1.out.below hb2; have c0 : w2.cell? ⟨G,0,none⟩ = some (.int .i64 0):=hK2.cell 0
 have c1 : w2.cell? ⟨G,1,none⟩ = some (.int .i64 0):=hK2.cell 1
 have f0:=hK2.frozen 0; have f1:=hK2.frozen 1; have hV1:=fun l (h : elemsGo [] V1 = some l) => (Rd.own (h ▸ hv1.out : PartsOut w1 w0.heap.size o1 (some l)) : Rd w1 1 o1 l.length (strs l)).below hb2
 replace hV1:=Hj hV1; replace hv2:=Hj hv2; replace hK2:=Hj hK2; clear hb2 hK1 hb01 hv1 hR hR1; by_cases n1 : 0 < V1.length
 ·by_cases n2 : 0 < V2.length
  ·have hf:=Hj (hff n1 n2)
   clear hff hfc hfn hfl; go_wp2; exact ret_blk rfl rfl rfl (hK2.out.two _ _) Tryz.underlying69 rfl (by kernel_rfl) ⟨by rw [hf.out]; rfl,two_below hG hb02.out _ _⟩
  ·have hf:=Hj (hfl n1 n2)
   have hn0 : ((V1.length : Int) == 0) = false:=beq_false_of_ne (by omega)
   clear hff hfc hfn hfl; cases hl : elemsGo [] V1 with
   | none =>
    have hf2 : Hid (fr = ((0,0),30)):=Hj (by rw [hf.out,hl]; rfl)
    clear hl; go_wp2; exact ret_blk rfl rfl rfl (hK2.out.two _ _) Tryz.underlying69 rfl (by kernel_rfl) ⟨by rw [hf2.out]; rfl,two_below hG hb02.out _ _⟩
   | some l =>
    have hRl:=hV1.out l hl; obtain ⟨hsl,hcn⟩:=hs1.out l hl
    cases l with
    | nil =>
     obtain ⟨A1,q1,rfl,-,-,-⟩:=hRl
     have hf2 : Hid (fr = ((0,0),30)):=Hj (by rw [hf.out,hl]; rfl)
     clear hl; go_wp2; exact ret_blk rfl rfl rfl (hK2.out.two _ _) Tryz.underlying69 rfl (by kernel_rfl) ⟨by rw [hf2.out]; rfl,two_below hG hb02.out _ _⟩
    | cons x r =>
     have hf2 : Hid (fr = if (x :: r).all (· == x) then lengthOf x else ((0,0),30)):=Hj (by rw [hf.out,hl,frameL_cons])
     have hx5:=hsl x (by simp); obtain ⟨l,hlx⟩ : ∃ l,l = x :: r:=⟨_,rfl⟩
     have hl0 : l[0]? = some x:=by rw [hlx]; rfl
     have hlp : 0 < l.length:=by rw [hlx]; simp
     rw [← hlx] at hRl hf2 hcn
     clear hl hsl hlx hf; obtain ⟨A1,q1,rfl,hq1,-,hcell⟩:=hRl
     obtain ⟨b1,o3,rfl,-,x1⟩:=hcell hlp
     have d0 : w2.cell? ⟨b1,o3,none⟩ = some (.string (str x)):=by
      have:=x1 0 (.string (str x)) (by unfold strs; rw [List.getElem?_map,hl0]; rfl)
      exact this
     have hlz : ((l.length : Int) == 0) = false:=beq_false_of_ne (by omega)
     replace x1:=Hj x1; clear hcell hl0; go_wp2; go_loop [11,67] (fun _ i => ∃ k : Nat,i = .int .i64 (k : Int) ∧ k ≤ l.length ∧ Hid ((l.take k).all (· == x) = true)) (fun _ i => l.length - (intOf i).toNat)
     case atStart => exact ⟨0,rfl,by omega,rfl⟩
     case round =>
      obtain ⟨k,rfl,hk,ha⟩:=hrel
      by_cases hlt : k < l.length
      ·have d1 : w2.cell? ⟨b1,o3 + k,none⟩ = some (.string (str l[k])):=x1.out k _ (strs_at hlt)
       by_cases hx : l[k] = x
       ·have hn:=Hj (all_eq_take hlt ha.out hx)
        have hq : ((str l[k]).toList == (str x).toList) = true:=str_eq hx
        replace hx:=Hj hx; go_wp2; go_round
        case rel => exact ⟨k + 1,by go_num,by omega,hn⟩
        case measure => simp [intOf]; omega
       ·have hf3 : Hid (fr = ((0,0),30)):=Hj (by rw [hf2.out,not_all hlt hx]; rfl)
        have hq : ((str l[k]).toList == (str x).toList) = false:=str_ne hx
        replace hx:=Hj hx; go_wp2; exact ret_blk rfl rfl rfl (hK2.out.two _ _) Tryz.underlying69 rfl (by kernel_rfl) ⟨by rw [hf3.out]; rfl,by first | exact two_below hG hb02.out _ _ | exact two_below' hb02.out _ _⟩
      ·obtain rfl : k = l.length:=by omega
       have hal:=ha.out; rw [List.take_length] at hal
       have hf3 : fr = lengthOf x:=by rw [hf2.out,if_pos hal]
       have hN : ∀ w,Calls Tryz.prog 50 #[.string (str x)] w fun e w' => e = .returned (.tuple #[.int .i64 ((number x).1 : Int),.bool (decide ((number x).2 = 0))]) ∧ ∃ n,w' = w.drewN n:=fun w => frnumber_any (str x) w (by rw [str_size]; unfold maxLen; omega)
       unfold lengthOf at hf3
       clear hal; by_cases h0 : (number x).2 = 0
       ·rw [decide_eq_true h0] at hN
        rw [if_pos h0] at hf3
        generalize (number x).1 = n at *; replace h0:=Hj h0; by_cases hbig : 65536 < n
        ·rw [if_pos hbig] at hf3
         replace hf3:=Hj hf3; replace hN:=Hj hN; go_wp2_with fail
         refine (hN.out _).mono ?_
         rintro e w3 ⟨rfl,nd,rfl⟩
         go_wp2; exact ret_blk rfl rfl rfl ((hK2.out.drewN nd).two _ _) Tryz.underlying69 rfl (by kernel_rfl) ⟨by rw [hf3.out]; rfl,by first | exact two_below hG (below_drewN hb02.out nd) _ _ | exact two_below' (below_drewN hb02.out nd) _ _⟩
        ·rw [if_neg hbig] at hf3
         replace hf3:=Hj hf3; replace hN:=Hj hN; go_wp2_with fail
         refine (hN.out _).mono ?_
         rintro e w3 ⟨rfl,nd,rfl⟩
         go_wp2; exact ret_blk rfl rfl rfl ((hK2.out.drewN nd).two _ _) Tryz.underlying69 rfl (by kernel_rfl) ⟨by rw [hf3.out]; rfl,by first | exact two_below hG (below_drewN hb02.out nd) _ _ | exact two_below' (below_drewN hb02.out nd) _ _⟩
       ·rw [decide_eq_false h0] at hN
        rw [if_neg h0] at hf3
        generalize (number x).1 = n at *; replace h0:=Hj h0; replace hf3:=Hj hf3; replace hN:=Hj hN; go_wp2_with fail
        refine (hN.out _).mono ?_
        rintro e w3 ⟨rfl,nd,rfl⟩
        go_wp2; exact ret_blk rfl rfl rfl ((hK2.out.drewN nd).two _ _) Tryz.underlying69 rfl (by kernel_rfl) ⟨by rw [hf3.out]; rfl,by first | exact two_below hG (below_drewN hb02.out nd) _ _ | exact two_below' (below_drewN hb02.out nd) _ _⟩
 ·by_cases n2 : 0 < V2.length
  ·have hf:=Hj (hfc n1 n2)
   clear hff hfc hfn hfl; cases hl : elemsGo [] V2 with
   | none =>
    have hf2 : Hid (fr = ((0,0),32)):=Hj (by rw [hf.out,hl]; rfl)
    clear hl; go_wp2; exact ret_blk rfl rfl rfl (hK2.out.two _ _) Tryz.underlying69 rfl (by kernel_rfl) ⟨by rw [hf2.out]; rfl,two_below hG hb02.out _ _⟩
   | some l =>
    have hv3:=hv2.out; rw [hl] at hv3
    have hRl : Rd w2 1 o2 l.length (strs l):=Rd.own hv3
    obtain ⟨hsl,hcn⟩:=hs2.out l hl
    clear hv3; by_cases h1 : l.length = 1
    ·obtain ⟨c,rfl⟩:=List.length_eq_one_iff.1 h1
     have hc5:=hsl c (by simp); obtain ⟨A1,q1,rfl,hq1,-,hcell⟩:=hRl
     obtain ⟨b1,o3,rfl,-,x1⟩:=hcell (by simp)
     have d0 : w2.cell? ⟨b1,o3,none⟩ = some (.string (str c)):=x1 0 _ rfl
     have hL : ∀ w,Calls Tryz.prog 53 #[.string (str c)] w fun e w' => e = .returned (.string (str (Syn.lower c))) ∧ Below w.heap.size w w':=fun w => frlower_any (str c) w (by rw [str_size]; omega)
     have hf2 : fr = if Syn.lower c = ch then ((3,0),0) else ((0,0),32):=by rw [hf.out,hl]; rfl
     replace hL:=Hj hL; clear hl hf hcell x1 hsl; have hone : (([c] : List Bytes).length : Int) = 1:=rfl
     by_cases hch : Syn.lower c = ch
     ·rw [if_pos hch] at hf2
      have hq : ((str (Syn.lower c)).toList == [99,104,117,110,107,101,100]) = true:=by rw [str_toList,hch]; decide
      replace hch:=Hj hch; replace hf2:=Hj hf2; go_wp2_with fail
      refine (hL.out _).mono ?_
      rintro e w3 ⟨rfl,hb3⟩
      have hb03:=Hj (hb02.out.trans (hb3.mono (by have:=hK2.out.lt; omega)))
      have hK3:=hK2.out.below hb3; have e0 : w3.cell? ⟨G,0,none⟩ = some (.int .i64 0):=hK3.cell 0
      have e1 : w3.cell? ⟨G,1,none⟩ = some (.int .i64 0):=hK3.cell 1
      have g0:=hK3.frozen 0; have g1:=hK3.frozen 1; replace hK3:=Hj hK3; clear hb3; go_wp2; exact ret_blk rfl rfl rfl (hK3.out.two _ _) Tryz.underlying69 rfl (by kernel_rfl) ⟨by rw [hf2.out]; rfl,two_below hG hb03.out _ _⟩
     ·rw [if_neg hch] at hf2
      have hq : ((str (Syn.lower c)).toList == [99,104,117,110,107,101,100]) = false:=by rw [str_toList,beq_eq_false_iff_ne]; exact hch
      replace hch:=Hj hch; replace hf2:=Hj hf2; go_wp2_with fail
      refine (hL.out _).mono ?_
      rintro e w3 ⟨rfl,hb3⟩
      have hb03:=Hj (hb02.out.trans (hb3.mono (by have:=hK2.out.lt; omega)))
      have hK3:=hK2.out.below hb3; have e0 : w3.cell? ⟨G,0,none⟩ = some (.int .i64 0):=hK3.cell 0
      have e1 : w3.cell? ⟨G,1,none⟩ = some (.int .i64 0):=hK3.cell 1
      have g0:=hK3.frozen 0; have g1:=hK3.frozen 1; replace hK3:=Hj hK3; clear hb3; go_wp2; exact ret_blk rfl rfl rfl (hK3.out.two _ _) Tryz.underlying69 rfl (by kernel_rfl) ⟨by rw [hf2.out]; rfl,two_below hG hb03.out _ _⟩
    ·have hf2 : Hid (fr = ((0,0),32)):=Hj (by rw [hf.out,hl,frameC_long h1])
     have hb1 : ((l.length : Int) == 1) = false:=beq_false_of_ne (by omega)
     have hb2 : ((l.length : Int) != 1) = true:=by rw [bne,hb1]; rfl
     obtain ⟨A1,q1,rfl,hq1,-,-⟩:=hRl
     clear hl hsl; go_wp2; exact ret_blk rfl rfl rfl (hK2.out.two _ _) Tryz.underlying69 rfl (by kernel_rfl) ⟨by rw [hf2.out]; rfl,two_below hG hb02.out _ _⟩
  ·have hf:=Hj (hfn n1 n2)
   have hn0 : ((V1.length : Int) == 0) = true:=by rw [show V1.length = 0 by omega]; rfl
   clear hff hfc hfn hfl; go_wp2; exact ret_blk rfl rfl rfl (hK2.out.two _ _) Tryz.underlying69 rfl (by kernel_rfl) ⟨by rw [hf.out]; rfl,two_below hG hb02.out _ _⟩
end Go.Proofs.YtjffffpfejmoiaaGreatDoor
namespace Go.Proofs.YtjffffpfejmoiaaGreatDoor
open Go.RowKit Syn Fr
end Go.Proofs.YtjffffpfejmoiaaGreatDoor
namespace Go.Proofs.YtjffffpfejmoiaaGreatDoor
open Go.RowKit Syn Fr
theorem frame_swap (L : List (Bytes × Bytes)) : (frame 4 L = ((4,0),0) ∧ frame 1 L = ((1,0),0)) ∨ ((frame 4 L).1.1 ≠ 4 ∧ frame 1 L = frame 4 L):=by
 by_cases n1 : 0 < (allV L cl).length
 ·by_cases n2 : 0 < (allV L te).length
  ·right; rw [frame_both n1 n2,frame_both n1 n2]; exact ⟨by decide,rfl⟩
  ·right
   rw [frame_cl n1 n2,frame_cl n1 n2]
   refine ⟨?_,rfl⟩
   match elemsGo [] (allV L cl) with
   | none => decide
   | some [] => decide
   | some (x :: r) =>
    rw [frameL_cons]
    split
    ·unfold lengthOf
     split
     ·split
      ·decide
      ·show (2 : Nat) ≠ 4; decide
     ·decide
    ·decide
 ·by_cases n2 : 0 < (allV L te).length
  ·right
   rw [frame_te n1 n2,frame_te n1 n2]
   refine ⟨?_,rfl⟩
   match elemsGo [] (allV L te) with
   | none => decide
   | some [] => decide
   | some [c] =>
    show (if Syn.lower c = ch then (((3,0),0) : Out) else ((0,0),32)).1.1 ≠ 4
    split
    ·show (3 : Nat) ≠ 4; decide
    ·show (0 : Nat) ≠ 4; decide
   | some (_ :: _ :: _) => show (0 : Nat) ≠ 4; decide
  ·left; rw [frame_none n1 n2,frame_none n1 n2]; exact ⟨rfl,rfl⟩
theorem two_alloc {w w1 : World} {G : Nat} (hG : w.heap.size = G) (h : Below w.heap.size w w1) (hl : w.heap.size ≤ w1.heap.size) (a b : Value) (o : Obj) : Below w.heap.size w (((w1.setCell ⟨G + 1,0,none⟩ a).setCell ⟨G + 1,1,none⟩ b).alloc o) :=
 ((h.setCell (p:=⟨G + 1,0,none⟩) (by show _ ≤ G + 1; omega) a).setCell (p:=⟨G + 1,1,none⟩) (by show _ ≤ G + 1; omega) b).alloc (by rw [size_setCell,size_setCell]; exact hl) o
theorem two_alloc' {w w1 : World} {G : Nat} (hG : w.heap.size = G) (h : Below w.heap.size w w1) (hl : w.heap.size ≤ w1.heap.size) (a b : Value) (o : Obj) : Below G w (((w1.setCell ⟨G + 1,0,none⟩ a).setCell ⟨G + 1,1,none⟩ b).alloc o):=by
 have:=two_alloc hG h hl a b o
 rwa [hG] at this
set_option maxHeartbeats 4000000 in
theorem of_request (L : List (Bytes × Bytes)) (m t : ByteArray) (A : Option Addr) (cap : Nat) (w : World) (hF : Few L) (hR : Rd w 2 (.slice A L.length cap) L.length (prs L)) :
  Calls Tryz.prog 35 #[.agg #[.string m,.string t,.slice A L.length cap]] w fun e w' => e = .returned (.tuple #[frameV (frame 1 L),errV (frame 1 L).2]) ∧ Below w.heap.size w w':=by
 obtain ⟨G,hG⟩ : ∃ G,w.heap.size = G:=⟨_,rfl⟩
 have hO:=Hj (fun w (h : Rd w 2 (.slice A L.length cap) L.length (prs L)) => of_frame L _ w hF h); have hsw:=frame_swap L; generalize frame 1 L = f1 at *; generalize frame 4 L = f4 at *; replace hR:=Hj hR; go_enter Tryz.func35,Tryz.ntmps35
 go_wp2_with fail
 have hA:=Blk.new (w.alloc (.cells #[.string m,.string t,.slice A L.length cap] 30)) 69 #[.int .i64 0,.int .i64 0]; have hB0:=((Below.refl w.heap.size w).alloc (Nat.le_refl _) (.cells #[.string m,.string t,.slice A L.length cap] 30)).alloc (by rw [alloc_size']; omega) (.cells #[.int .i64 0,.int .i64 0] 69)
 rw [alloc_size',hG] at hA
 generalize (w.alloc (.cells #[.string m,.string t,.slice A L.length cap] 30)).alloc (.cells #[.int .i64 0,.int .i64 0] 69) = w2 at *; have hR2:=hR.out.below hB0; refine (hO.out _ hR2).mono ?_
 rintro e w3 ⟨rfl,hb3⟩
 have hK:=hA.below hb3; have hB3:=Below.next hB0 hB0.size hb3; have c0 : w3.cell? ⟨G + 1,0,none⟩ = some (.int .i64 0):=hK.cell 0
 have c1 : w3.cell? ⟨G + 1,1,none⟩ = some (.int .i64 0):=hK.cell 1
 have g0:=hK.frozen 0; have g1:=hK.frozen 1; have hGl : G + 1 < w3.heap.size:=hK.lt
 have hwl:=hB3.size; replace hK:=Hj hK; replace hB3:=Hj hB3; clear hb3 hR2 hA hB0; rw [show frameV f4 = .agg #[.int .i64 (f4.1.1 : Int),.int .i64 (f4.1.2 : Int)] from rfl]
 rcases hsw with ⟨rfl,rfl⟩ | ⟨h4,rfl⟩
 ·rw [show errV (((4,0),0) : Out).2 = .nilIface from rfl]
  go_wp2; exact ret_blk rfl rfl rfl ((hK.out.two _ _).alloc _) Tryz.underlying69 rfl (by kernel_rfl) ⟨rfl,by first | exact two_alloc hG hB3.out hwl _ _ _ | exact two_alloc' hG hB3.out hwl _ _ _⟩
 ·have hk4 : ((f1.1.1 : Int) == 4) = false:=beq_false_of_ne (by omega)
  generalize hev : errV f1.2 = ev
  replace hev:=Hj hev; go_wp2; exact ret_blk rfl rfl rfl ((hK.out.two _ _).alloc _) Tryz.underlying69 rfl (by kernel_rfl) ⟨by rw [hev.out]; rfl,by first | exact two_alloc hG hB3.out hwl _ _ _ | exact two_alloc' hG hB3.out hwl _ _ _⟩
end Go.Proofs.YtjffffpfejmoiaaGreatDoor
namespace Go.Proofs.YtjffffpfejmoiaaGreatDoor
open Go.RowKit Syn Fr
def respF (mt : Bytes) (z : Int) (f4 : Out) : Out :=
 if f4.2 ≠ 0 then ((0,0),f4.2) else if mt = [72,69,65,68] ∨ (100 ≤ z ∧ z ≤ 199) ∨ z = 204 ∨ z = 304 then ((1,0),0) else f4
set_option maxRecDepth 100000 in
set_option maxHeartbeats 16000000 in
theorem of_response (L : List (Bytes × Bytes)) (mt : Bytes) (z : Int) (A : Option Addr) (cap : Nat) (w : World) (hF : Few L) (hR : Rd w 2 (.slice A L.length cap) L.length (prs L)) :
  Calls Tryz.prog 37 #[.string (str mt),.agg #[.int .i64 z,.slice A L.length cap]] w fun e w' => e = .returned (.tuple #[frameV (respF mt z (frame 4 L)),errV (respF mt z (frame 4 L)).2]) ∧ Below w.heap.size w w':=by
 obtain ⟨G,hG⟩ : ∃ G,w.heap.size = G:=⟨_,rfl⟩
 have hO:=Hj (fun w (h : Rd w 2 (.slice A L.length cap) L.length (prs L)) => of_frame L _ w hF h); generalize frame 4 L = f4 at *; replace hR:=Hj hR; go_enter Tryz.func37,Tryz.ntmps37
 go_wp2_with fail
 have hX:=(Blk.new w 75 #[.int .i64 z,.slice A L.length cap]).alloc (.cells #[.int .i64 0,.int .i64 0] 69); have hA:=Blk.new (w.alloc (.cells #[.int .i64 z,.slice A L.length cap] 75)) 69 #[.int .i64 0,.int .i64 0]; have hB0:=((Below.refl w.heap.size w).alloc (Nat.le_refl _) (.cells #[.int .i64 z,.slice A L.length cap] 75)).alloc (by rw [alloc_size']; omega) (.cells #[.int .i64 0,.int .i64 0] 69)
 rw [alloc_size',hG] at hA
 rw [hG] at hX
 generalize (w.alloc (.cells #[.int .i64 z,.slice A L.length cap] 75)).alloc (.cells #[.int .i64 0,.int .i64 0] 69) = w2 at *; have hR2:=hR.out.below hB0; refine (hO.out _ hR2).mono ?_
 rintro e w3 ⟨rfl,hb3⟩
 have hK:=hA.below hb3; have hX3:=hX.below hb3; have hX4:=hX3.alloc (.cells #[.int .i64 (f4.1.1 : Int),.int .i64 (f4.1.2 : Int)] 69); have hB3:=Below.next hB0 hB0.size hb3; have c0 : w3.cell? ⟨G + 1,0,none⟩ = some (.int .i64 0):=hK.cell 0
 have c1 : w3.cell? ⟨G + 1,1,none⟩ = some (.int .i64 0):=hK.cell 1
 have g0:=hK.frozen 0; have g1:=hK.frozen 1; have x0 : (w3.alloc (.cells #[.int .i64 (f4.1.1 : Int),.int .i64 (f4.1.2 : Int)] 69)).cell? ⟨G,0,none⟩ = some (.int .i64 z):=hX4.cell 0
 have hGl : G + 1 < w3.heap.size:=hK.lt
 have hwl:=hB3.size; replace hK:=Hj hK; replace hB3:=Hj hB3; clear hb3 hR2 hA hB0 hX hX3 hX4; rw [show frameV f4 = .agg #[.int .i64 (f4.1.1 : Int),.int .i64 (f4.1.2 : Int)] from rfl]
 by_cases he : f4.2 = 0
 ·rw [he,show errV 0 = .nilIface from rfl]
  by_cases hH : mt = [72,69,65,68]
  ·have hq : ((str mt).toList == [72,69,65,68]) = true:=by rw [str_toList,hH]; decide
   have hres:=Hj (show respF mt z f4 = ((1,0),0) by unfold respF; rw [if_neg (by omega),if_pos (.inl hH)])
   replace hH:=Hj hH; go_wp2; exact ret_blk rfl rfl rfl ((hK.out.two _ _).alloc _) Tryz.underlying69 rfl (by kernel_rfl) ⟨by first | rfl | (rw [hres.out]; rfl),by first | exact two_alloc hG hB3.out hwl _ _ _ | exact two_alloc' hG hB3.out hwl _ _ _⟩
  ·have hq : ((str mt).toList == [72,69,65,68]) = false:=by rw [str_toList,beq_eq_false_iff_ne]; exact hH
   by_cases h1 : 100 ≤ z
   ·by_cases h2 : z ≤ 199
    ·have hres:=Hj (show respF mt z f4 = ((1,0),0) by unfold respF; rw [if_neg (by omega),if_pos (.inr (.inl ⟨h1,h2⟩))])
     replace hH:=Hj hH; go_wp2; exact ret_blk rfl rfl rfl ((hK.out.two _ _).alloc _) Tryz.underlying69 rfl (by kernel_rfl) ⟨by first | rfl | (rw [hres.out]; rfl),by first | exact two_alloc hG hB3.out hwl _ _ _ | exact two_alloc' hG hB3.out hwl _ _ _⟩
    ·by_cases h3 : z = 204
     ·have hres:=Hj (show respF mt z f4 = ((1,0),0) by unfold respF; rw [if_neg (by omega),if_pos (.inr (.inr (.inl h3)))])
      have hz3 : (z == 204) = true:=by rw [h3]; rfl
      replace hH:=Hj hH; replace h3:=Hj h3; go_wp2; exact ret_blk rfl rfl rfl ((hK.out.two _ _).alloc _) Tryz.underlying69 rfl (by kernel_rfl) ⟨by first | rfl | (rw [hres.out]; rfl),by first | exact two_alloc hG hB3.out hwl _ _ _ | exact two_alloc' hG hB3.out hwl _ _ _⟩
     ·have hz3 : (z == 204) = false:=beq_false_of_ne h3
      by_cases h5 : z = 304
      ·have hres:=Hj (show respF mt z f4 = ((1,0),0) by unfold respF; rw [if_neg (by omega),if_pos (.inr (.inr (.inr h5)))])
       have hz5 : (z == 304) = true:=by rw [h5]; rfl
       replace hH:=Hj hH; replace h3:=Hj h3; replace h5:=Hj h5; go_wp2; exact ret_blk rfl rfl rfl ((hK.out.two _ _).alloc _) Tryz.underlying69 rfl (by kernel_rfl) ⟨by first | rfl | (rw [hres.out]; rfl),by first | exact two_alloc hG hB3.out hwl _ _ _ | exact two_alloc' hG hB3.out hwl _ _ _⟩
      ·have hz5 : (z == 304) = false:=beq_false_of_ne h5
       have hres:=Hj (show respF mt z f4 = f4 by unfold respF; rw [if_neg (by omega),if_neg (by rintro (h | h | h | h); exact hH h; exact h2 h.2; exact h3 h; exact h5 h)])
       replace hH:=Hj hH; replace h3:=Hj h3; replace h5:=Hj h5; (go_wp2; exact ret_blk rfl rfl rfl ((hK.out.two _ _).alloc _) Tryz.underlying69 rfl (by kernel_rfl) ⟨by rw [hres.out,he]; rfl,by first | exact two_alloc hG hB3.out hwl _ _ _ | exact two_alloc' hG hB3.out hwl _ _ _⟩)
   ·have h3 : z ≠ 204:=by omega
    have h5 : z ≠ 304:=by omega
    have hz3 : (z == 204) = false:=beq_false_of_ne h3
    have hz5 : (z == 304) = false:=beq_false_of_ne h5
    have hres:=Hj (show respF mt z f4 = f4 by unfold respF; rw [if_neg (by omega),if_neg (by rintro (h | h | h | h); exact hH h; exact h1 h.1; exact h3 h; exact h5 h)])
    replace hH:=Hj hH; replace h3:=Hj h3; replace h5:=Hj h5; (go_wp2; exact ret_blk rfl rfl rfl ((hK.out.two _ _).alloc _) Tryz.underlying69 rfl (by kernel_rfl) ⟨by rw [hres.out,he]; rfl,by first | exact two_alloc hG hB3.out hwl _ _ _ | exact two_alloc' hG hB3.out hwl _ _ _⟩)
 ·have hres:=Hj (show respF mt z f4 = ((0,0),f4.2) by unfold respF; rw [if_pos he])
  have hev : ∃ n : Int,errV f4.2 = .iface 57 (.int .i64 n):=⟨f4.2,by unfold errV; rw [if_neg he]⟩
  obtain ⟨n,hev⟩:=hev
  have hev2:=Hj hev; rw [hev]
  clear hev; go_wp2; exact ret_blk rfl rfl rfl ((hK.out.two _ _).alloc _) Tryz.underlying69 rfl (by kernel_rfl) ⟨by rw [hres.out,hev2.out]; rfl,by first | exact two_alloc hG hB3.out hwl _ _ _ | exact two_alloc' hG hB3.out hwl _ _ _⟩
end Go.Proofs.YtjffffpfejmoiaaGreatDoor
namespace Go.Proofs.YtjffffpfejmoiaaGreatDoor
open Go.RowKit Syn Fr
theorem frame_shape (L : List (Bytes × Bytes)) : (∀ K,frame K L = ((K,0),0)) ∨ (∃ f : Out,(∀ K,frame K L = f) ∧ ((f.2 ≠ 0 ∧ f.1 = (0,0)) ∨ f = ((3,0),0) ∨ ∃ n,n ≤ 65536 ∧ f = ((2,n),0))):=by
 by_cases n1 : 0 < (allV L cl).length
 ·right
  by_cases n2 : 0 < (allV L te).length
  ·exact ⟨_,fun K => frame_both n1 n2,.inl ⟨by decide,rfl⟩⟩
  ·refine ⟨_,fun K => frame_cl n1 n2,?_⟩
   match elemsGo [] (allV L cl) with
   | none => exact .inl ⟨by decide,rfl⟩
   | some [] => exact .inl ⟨by decide,rfl⟩
   | some (x :: r) =>
    rw [frameL_cons]
    split
    ·unfold lengthOf
     split
     ·split
      ·exact .inl ⟨by decide,rfl⟩
      ·exact .inr (.inr ⟨_,by omega,rfl⟩)
     ·exact .inl ⟨by decide,rfl⟩
    ·exact .inl ⟨by decide,rfl⟩
 ·by_cases n2 : 0 < (allV L te).length
  ·right
   refine ⟨_,fun K => frame_te n1 n2,?_⟩
   match elemsGo [] (allV L te) with
   | none => exact .inl ⟨by decide,rfl⟩
   | some [] => exact .inl ⟨by decide,rfl⟩
   | some [c] =>
    by_cases hc : Syn.lower c = ch
    ·exact .inr (.inl (if_pos hc))
    ·rw [show frameC (some [c]) = ((0,0),32) from if_neg hc]
     exact .inl ⟨by decide,rfl⟩
   | some (_ :: _ :: _) => exact .inl ⟨by show (32 : Int) ≠ 0; decide,rfl⟩
  ·exact .inl fun K => frame_none n1 n2
end Go.Proofs.YtjffffpfejmoiaaGreatDoor
