import Derived.Test.YtjffffpfejmoiaaGreatDoorGNt
import Derived.Test.YtjffffpfejmoiaaGreatDoorGByt
import Derived.Test.YtjffffpfejmoiaaGreatDoorGXg
import Derived.Deep.RegionWith
import Derived.Test.YtjffffpfejmoiaaGreatDoorGPl
namespace Go.Proofs.YtjffffpfejmoiaaGreatDoor
open Go.RowKit Syn Fr Ck
theorem dg_one {n : Nat} (h : n < 10) : dg n = [digc n]:=by
 unfold dg dgp
 rw [if_neg (by omega),if_neg (by omega),if_neg (by omega),if_neg (by omega)]; rfl
theorem dgp_div {n p : Nat} : dgp (n / 10) p = dgp n (10 * p):=by
 unfold dgp
 have h : p ≤ n / 10 ↔ 10 * p ≤ n:=by rw [Nat.le_div_iff_mul_le (by decide),Nat.mul_comm]
 by_cases h1 : p ≤ n / 10
 ·rw [if_pos h1,if_pos (h.1 h1),Nat.div_div_eq_div_mul]
 ·rw [if_neg h1,if_neg (fun h2 => h1 (h.2 h2))]
theorem dg_step {n : Nat} (h1 : 10 ≤ n) (h2 : n < 100000) : dg n = dg (n / 10) ++ [digc n]:=by
 have e0 : dgp (n / 10) 10000 = []:=if_neg (by omega)
 have e1 : dgp n 10 = [digc (n / 10)]:=if_pos h1
 unfold dg
 rw [e0,e1,dgp_div,dgp_div,dgp_div]
 simp
set_option maxRecDepth 100000 in
set_option maxHeartbeats 8000000 in
theorem digits_top (n : Nat) : n < 100000 → ∀ w,Calls Tryz.prog 33 #[.int .i64 (n : Int)] w fun e w' => e = .returned (.string (str (dg n))) ∧ Below w.heap.size w w':=by
 induction n using Nat.strongRecOn with
 | ind n ih =>
  intro hn w; by_cases h10 : n < 10
  ·rw [dg_one h10]
   have hcv:=run_byte w (digc n); rw [show ((digc n).toNat : Int) = 48 + (n : Int) by rw [digc_nat]; omega] at hcv
   have hB:=Hj ((Below.refl w.heap.size w).alloc (Nat.le_refl _) (.cells #[.int .u8 (48 + (n : Int))] 5)); have hw1 : IntKind.u8.wrap (48 + (n : Int)) = 48 + (n : Int):=IntWalk.u8_in _ (by omega)
   clear ih; go_enter Tryz.func33,Tryz.ntmps33
   go_wp2; go_ret; exact ⟨rfl,hB.out⟩
  ·rw [dg_step (by omega) hn]
   have hD:=Hj (ih (n / 10) (by omega) (by omega)); rw [show ((n / 10 : Nat) : Int) = (n : Int) / 10 by omega] at hD
   have hl : (dg (n / 10)).length ≤ 5:=by
    unfold dg
    simp only [List.length_append,List.length_cons,List.length_nil]
    have:=dgp_len (n / 10) 10000; have:=dgp_len (n / 10) 1000; have:=dgp_len (n / 10) 100; have:=dgp_len (n / 10) 10
    omega
   generalize dg (n / 10) = D at *; have hsz : (str D).size + (str [digc n]).size ≤ 9223372036854775807:=by rw [str_size,str_size]; simp; omega
   have hq:=Hj (str_append D [digc n]); have hcv : ∀ W : World,_:=fun W => one_byte n W
   have hB:=Hj ((Below.refl w.heap.size w).alloc (Nat.le_refl _) (.cells #[.int .u8 (48 + (n : Int) % 10)] 5)); have hw1 : IntKind.u8.wrap (48 + (n : Int) % 10) = 48 + (n : Int) % 10:=IntWalk.u8_in _ (by omega)
   have hB8 : Blk (w.alloc (.cells #[.int .u8 (48 + (n : Int) % 10)] 5)) w.heap.size 5 #[.int .u8 ((digc n).toNat : Int)]:=by
    rw [show ((digc n).toNat : Int) = 48 + (n : Int) % 10 by rw [digc_nat]; omega]
    exact Blk.new w _ _
   replace hB8:=Hj hB8; clear ih; go_enter Tryz.func33,Tryz.ntmps33
   go_wp2_with fail
   have e1 : IntKind.i64.wrap ((n : Int) / 10) = (n : Int) / 10:=IntWalk.i64_in _ (by omega)
   have e2 : (n : Int).tmod 10 = (n : Int) % 10:=Int.tmod_eq_emod_of_nonneg (by omega)
   have e3 : IntKind.i64.wrap (48 + (n : Int) % 10) = 48 + (n : Int) % 10:=IntWalk.i64_in _ (by omega)
   have hcw:=hcv w; have hcwd:=hcv w.drew; replace hcv:=Hj hcv; have hcdr:=conv_rd (l:=[digc n]) (Rd.one8 (hB8.out.below (Below.refl (w.alloc (.cells #[.int .u8 (48 + (n : Int) % 10)] 5)).heap.size (w.alloc (.cells #[.int .u8 (48 + (n : Int) % 10)] 5))).drew)) (Nat.one_pos); go_region_with (go_at_call 33; refine (hD.out _).mono ?_; rintro e w5 ⟨rfl,hb5⟩; first
    | (have hb6 : Below w.heap.size w w5:=(by with_reducible exact below_of_drew hb5); have hB5:=Hj hb6; have hc5:=hcv.out w5; clear hb5 hb6)
    | (have hb6 : Below (w.alloc (.cells #[.int .u8 (48 + (n : Int) % 10)] 5)).heap.size (w.alloc (.cells #[.int .u8 (48 + (n : Int) % 10)] 5)) w5:=(by with_reducible exact below_of_drew hb5); have hr5:=conv_rd (l:=[digc n]) (Rd.one8 (hB8.out.below hb6)) (Nat.one_pos); have hB5:=Hj (hB.out.trans (hb6.mono hB.out.size)); clear hb5 hb6))
   all_goals
    go_wp2; go_ret; exact ⟨congrArg (fun s => Ending.returned (Value.string s)) hq.out,by first | with_reducible exact hB5.out | with_reducible exact hB5.out.drew | with_reducible exact hB5.out.alloc hB5.out.size _ | with_reducible exact (hB5.out.drew).alloc hB5.out.drew.size _⟩
theorem fname_big (s : ByteArray) (w : World) (hs : s.size ≤ 140737488355328) :
  Calls Tryz.prog 32 #[.string s] w fun e w' => e = .returned (.tuple #[.string (str (nmV (bs s))),errV (nmE (bs s))]) ∧ Below w.heap.size w w':=by
 by_cases h1 : s.size ≤ 1000000
 ·exact fname_any s w h1
 ·have hT:=Hj (fun w => token_any s w (by unfold maxLen; omega))
  have hn:=bs_length s; cases ht : isTok (bs s)
  ·have e:=Hj (show nmE (bs s) = 8 by unfold nmE; rw [ht]; rfl)
   have e2:=Hj (show nmV (bs s) = [] by unfold nmV; rw [e.out]; rfl)
   rw [ht] at hT
   rw [e.out,e2.out]
   clear ht; go_enter Tryz.func32,Tryz.ntmps32
   go_wp2_with fail
   refine (hT.out _).mono ?_
   rintro e w' ⟨rfl,rfl⟩
   go_wp2; go_ret2
   exact ⟨rfl,Below.refl _ _⟩
  ·rw [ht] at hT
   have h64 : 64 < s.size:=by omega
   have e:=Hj (show nmE (bs s) = 5 by unfold nmE; rw [ht,if_pos rfl,if_pos (by omega)])
   have e2:=Hj (show nmV (bs s) = [] by unfold nmV; rw [e.out]; rfl)
   rw [e.out,e2.out]
   clear ht; go_enter Tryz.func32,Tryz.ntmps32
   go_wp2_with fail
   refine (hT.out _).mono ?_
   rintro e w' ⟨rfl,rfl⟩
   go_wp2; go_ret2
   exact ⟨rfl,Below.refl _ _⟩
end Go.Proofs.YtjffffpfejmoiaaGreatDoor
namespace Go.Proofs.YtjffffpfejmoiaaGreatDoor
open Go.RowKit Syn Hd
set_option maxRecDepth 100000 in
set_option maxHeartbeats 4000000 in
theorem hsize_big (l : List (List UInt8 × List UInt8)) (v : Value) (w : World) (hR : Rd w 2 v l.length (prs l)) (hs : ∀ p ∈ l,p.1.length ≤ 140737488355328 ∧ p.2.length ≤ 140737488355328) (hm : l.length ≤ 1000) :
  Calls Tryz.prog 45 #[v] w fun e w' => e = .returned (.int .i64 (((lns l).length + 2 : Nat) : Int)) ∧ Below w.heap.size w w':=by
 obtain ⟨A,cap,rfl,hcap,-,-⟩:=id hR; have hlen:=lns_len l 140737488355328 hs; have hll:=Hj (fun k => lns_le l k); replace hR:=Hj hR; replace hs:=Hj hs; go_enter Tryz.func45,Tryz.ntmps45
 go_wp2; go_loopw [3,8] (fun t i wr => ∃ k m : Nat,i = .int .i64 (k : Int) ∧ k ≤ l.length ∧ t = .int .i64 (m : Int) ∧ m ≤ 281474976710670000 ∧ Hid (m = (lns (l.take k)).length + 2) ∧ Hid (Below w.heap.size w wr)) (fun _ i _ => l.length - (intOf i).toNat)
 case atStart => exact ⟨0,2,rfl,by omega,rfl,by omega,Hj rfl,Hj (Below.refl _ _)⟩
 case round =>
  obtain ⟨k,m,rfl,hk,rfl,hm2,hmk,hB⟩:=hrel
  by_cases hlt : k < l.length
  ·obtain ⟨A',cap',e',-,-,r'⟩:=hR.out.below hB.out
   cases e'; obtain ⟨b1,o1,rfl,hb1,x1⟩:=r' (by omega)
   have d1 : wr.cell? ⟨b1,o1 + k * 2,none⟩ = some (.string (str l[k].1)):=x1 _ _ (prs_at0 hlt)
   have d2 : wr.cell? ⟨b1,o1 + k * 2 + 1,none⟩ = some (.string (str l[k].2)):=x1 _ _ (prs_at1 hlt)
   have hsz:=hs.out l[k] (List.getElem_mem hlt); have hln:=ln_len l[k]; have hlt2:=congrArg List.length (lns_take hlt); have hl2:=hll.out (k + 1); rw [List.length_append] at hlt2
   generalize l[k] = p at *; obtain ⟨nm,vl⟩:=p
   simp only at d1 d2 hsz hln
   have z1:=str_size nm; have z2:=str_size vl; have hA1:=Hj (hB.out.alloc hB.out.size (.cells #[.string (str nm),.string (str vl)] 26)); have hnew : m + (nm.length + vl.length + 4) = (lns (l.take (k + 1))).length + 2:=by have:=hmk.out; omega
   have hbd : m + (nm.length + vl.length + 4) ≤ 281474976710670000:=by omega
   replace hnew:=Hj hnew; replace hlt2:=Hj hlt2; replace hl2:=Hj hl2; replace hln:=Hj hln; clear x1 r'; go_wp2; go_roundw
   case rel => exact ⟨k + 1,m + (nm.length + vl.length + 4),by go_num,by omega,by go_num,hbd,hnew,hA1⟩
   case measure => simp only [intOf]; omega
  ·obtain rfl : k = l.length:=by omega
   have hmk2:=hmk.out; rw [List.take_length] at hmk2
   replace hmk2:=Hj hmk2; go_wp2; go_ret; exact ⟨by rw [← hmk2.out]; rfl,hB.out⟩
set_option maxRecDepth 100000 in
set_option maxHeartbeats 4000000 in
theorem hlarge_big (st : Nat) (l : List (List UInt8 × List UInt8)) (v : Value) (w : World) (hst : st ≤ 1125899906842624) (hR : Rd w 2 v l.length (prs l)) (hs : ∀ p ∈ l,p.1.length ≤ 140737488355328 ∧ p.2.length ≤ 140737488355328) (hm : l.length ≤ 140737488355328) :
  Calls Tryz.prog 23 #[.int .i64 (st : Int),v] w fun e w' => e = .returned (.bool (largeB st l)) ∧ Below w.heap.size w w':=by
 obtain ⟨A,cap,rfl,hcap,-,-⟩:=id hR; have hL : largeB st l = (decide (64 < l.length) || decide (8192 < st + 2 + ((lns l).length + 2))):=rfl
 replace hR:=Hj hR; replace hs:=Hj hs; by_cases h64 : 64 < l.length
 ·have hres:=Hj (show largeB st l = true by rw [hL,decide_eq_true h64]; rfl)
  clear hL; go_enter Tryz.func23,Tryz.ntmps23
  go_wp2; go_ret; exact ⟨by rw [hres.out]; rfl,Below.refl _ _⟩
 ·have hS:=Hj (hsize_big l _ w hR.out hs.out (by omega))
  have hlen:=lns_len l 140737488355328 hs.out; have hlb : (lns l).length ≤ 18014398509600000:=by omega
  replace hlen:=Hj hlen; replace hL:=Hj hL; go_enter Tryz.func23,Tryz.ntmps23
  go_wp2_with fail
  refine hS.out.mono ?_
  rintro e w1 ⟨rfl,hb1⟩
  replace hb1:=Hj hb1; go_wp2; go_ret; refine ⟨congrArg (fun b => Ending.returned (Value.bool b)) (show (decide ((64 : Int) < (l.length : Int)) || decide ((8192 : Int) < (st : Int) + 2 + (((lns l).length : Int) + 2))) = largeB st l from ?_),hb1.out⟩
  rw [hL.out]
  congr 1
  ·exact decide_eq_decide.2 (by omega)
  ·exact decide_eq_decide.2 (by omega)
set_option maxRecDepth 100000 in
set_option maxHeartbeats 4000000 in
theorem wreq_large (m t : List UInt8) (l : List (List UInt8 × List UInt8)) (v : Value) (w : World) (hmt : m.length + t.length ≤ 562949953421312) (hR : Rd w 2 v l.length (prs l)) (hs : ∀ p ∈ l,p.1.length ≤ 140737488355328 ∧ p.2.length ≤ 140737488355328) (hm : l.length ≤ 140737488355328) (hL : largeB (m.length + t.length + 10) l = true) :
  Calls Tryz.prog 7 #[.agg #[.string (str m),.string (str t),v]] w (WqR w m t l):=by
 obtain ⟨A,cap,rfl,hcap,-,-⟩:=id hR; have hK:=Blk.new w 30 #[.string (str m),.string (str t),.slice A l.length cap]; have hb0:=(Below.refl w.heap.size w).alloc (Nat.le_refl _) (.cells #[.string (str m),.string (str t),.slice A l.length cap] 30); have hLa:=fun w' (hb : Below w.heap.size w w') => hlarge_big (m.length + t.length + 10) l (.slice A l.length cap) w' (by omega) (hR.below hb) hs hm
 rw [hL] at hLa
 have hE : wqE m t l = 5:=if_pos hL
 have z1 : (str m).size = m.length:=str_size _
 have z2 : (str t).size = t.length:=str_size _
 have q1 : (str m ++ (⟨#[32]⟩ : ByteArray)).size = m.length + 1:=by rw [ByteArray.size_append,z1]; rfl
 have q2 : (str m ++ (⟨#[32]⟩ : ByteArray) ++ str t).size = m.length + 1 + t.length:=by rw [ByteArray.size_append,q1,z2]
 have q3 : (str m ++ (⟨#[32]⟩ : ByteArray) ++ str t ++ ⟨#[32]⟩).size = m.length + 1 + t.length + 1:=by rw [ByteArray.size_append,q2]; rfl
 have q4 : (str m ++ (⟨#[32]⟩ : ByteArray) ++ str t ++ ⟨#[32]⟩ ++ ⟨#[72,84,84,80,47,49,46,49]⟩).size = m.length + t.length + 10:=by rw [ByteArray.size_append,q3]; show _ + 8 = _; omega
 rw [show ((m.length + t.length + 10 : Nat) : Int) = (m.length : Int) + (t.length : Int) + 10 by omega] at hLa
 have hc0:=hK.cell 0; have hc1:=hK.cell 1; have hc2:=hK.cell 2; replace hLa:=Hj hLa; replace hR:=Hj hR; replace hs:=Hj hs; replace hE:=Hj hE; replace hK:=Hj hK; replace hb0:=Hj hb0; replace hL:=Hj hL; generalize str m = sm at *; generalize str t = sd at *; go_enter Tryz.func7,Tryz.ntmps7
 go_wp2_with fail
 refine (hLa.out _ hb0.out).mono ?_
 rintro e w2 ⟨rfl,hb2⟩
 have hB2:=Hj (Below.next hb0.out hb0.out.size hb2); go_wp2; go_ret2
 exact WqR.bad hE.out (by decide) hB2.out
theorem wreq_all (m t : List UInt8) (l : List (List UInt8 × List UInt8)) (v : Value) (w : World) (hmt : m.length + t.length ≤ 562949953421312) (hR : Rd w 2 v l.length (prs l)) (hs : ∀ p ∈ l,p.1.length ≤ 140737488355328 ∧ p.2.length ≤ 140737488355328) (hm : l.length ≤ 140737488355328) :
  Calls Tryz.prog 7 #[.agg #[.string (str m),.string (str t),v]] w (WqR w m t l):=by
 cases hL : largeB (m.length + t.length + 10) l with
 | true => exact wreq_large m t l v w hmt hR hs hm hL
 | false =>
  unfold largeB at hL
  rw [Bool.or_eq_false_iff] at hL
  have h1:=of_decide_eq_false hL.2; have h0:=of_decide_eq_false hL.1; refine wreq_any m t l v w (by omega) hR (fun p hp => ?_) (by omega)
  have h2 : p.1.length + p.2.length ≤ (lns l).length:=by
   unfold lns
   clear hL h1 h0 hm hs hR hmt; induction l with
   | nil => cases hp
   | cons q r ih =>
    rw [List.flatMap_cons,List.length_append]
    rcases List.mem_cons.1 hp with rfl | hp
    ·rw [ln_len]; omega
    ·have:=ih hp; omega
  omega
end Go.Proofs.YtjffffpfejmoiaaGreatDoor
