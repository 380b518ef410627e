import Derived.Test.YtjffffpfejmoiaaGreatDoorGByt
import Derived.Test.YtjffffpfejmoiaaGreatDoorGCb
import Derived.Laws.Bits64b
import Derived.Lib.AppendStr
import Derived.Test.YtjffffpfejmoiaaGreatDoorGCk
namespace Go.Proofs.YtjffffpfejmoiaaGreatDoor
open Go.RowKit Syn
namespace Ck
def hxc (d : Nat) : UInt8:=if d < 10 then UInt8.ofNat (48 + d) else UInt8.ofNat (87 + d)
theorem hxc_nat {d : Nat} (h : d < 16) : (hxc d).toNat = if d < 10 then 48 + d else 87 + d:=by
 unfold hxc
 split
 ·exact UInt8.toNat_ofNat_of_lt' (by show 48 + d < 256; omega)
 ·exact UInt8.toNat_ofNat_of_lt' (by show 87 + d < 256; omega)
theorem hexv_hxc {d : Nat} (h : d < 16) : hexv (hxc d) = some d:=by
 have e:=hxc_nat h; unfold hexv
 by_cases h1 : d < 10
 ·rw [if_pos h1] at e; rw [if_pos (by omega),e]; congr 1; omega
 ·rw [if_neg h1] at e; rw [if_neg (by omega),if_pos (by omega),e]; congr 1; omega
def hexs (n : Nat) : List UInt8:=if n < 16 then [hxc n] else hexs (n / 16) ++ [hxc (n % 16)]
termination_by n
theorem hexs_small {n : Nat} (h : n < 16) : hexs n = [hxc n]:=by rw [hexs,if_pos h]
theorem hexs_big {n : Nat} (h : ¬ n < 16) : hexs n = hexs (n / 16) ++ [hxc (n % 16)]:=by rw [hexs,if_neg h]
theorem hexs_pos (n : Nat) : 0 < (hexs n).length:=by
 rw [hexs]; split <;> simp
theorem hexs_len : ∀ (m n : Nat),n < 16 ^ (m + 1) → (hexs n).length ≤ m + 1
 | m,n,h => by
  by_cases h1 : n < 16
  ·rw [hexs_small h1]; simp
  ·rw [hexs_big h1,List.length_append,List.length_singleton]
   match m with
   | 0 => omega
   | m + 1 =>
    have:=hexs_len m (n / 16) (by rw [Nat.pow_succ] at h; exact Nat.div_lt_of_lt_mul (by omega))
    omega
theorem hexs_five {n : Nat} (h : n ≤ 65536) : (hexs n).length ≤ 5:=hexs_len 4 n (by omega)
theorem wr_nil (s : St) : wr s [] = (s,[],0):=rfl
theorem wr_single {s : St} {c : UInt8} (h : ¬ (s.bad ≠ 0 ∨ s.place = 8)) (hb : (step s c).bad = 0) : wr s [c] = (step s c,(if s.place = 3 then [c] else []),1):=by
 rw [wr_go h (by omega)]
 rfl
def fresh (T lf : Nat) : St:=⟨0,0,0,0,T,lf,0,[],[],0⟩
theorem wr_hexs : ∀ (n T lf : Nat),T + n ≤ 65536 → wr (fresh T lf) (hexs n) = (⟨0,(hexs n).length,n,(hexs n).length,T,lf,0,[],[],0⟩,[],(hexs n).length):=by
 intro n; induction n using Nat.strongRecOn with
 | _ n ih =>
  intro T lf h; have dig : ∀ (m d : Nat) (k : Nat),d < 16 → k ≤ 4 → T + (16 * m + d) ≤ 65536 → step ⟨0,k,m,k,T,lf,0,[],[],0⟩ (hxc d) = ⟨0,k + 1,16 * m + d,k + 1,T,lf,0,[],[],0⟩:=by
   intro m d k hd hk hT; have e:=hxc_nat hd; have h1 : (hxc d).toNat ≠ 13 ∧ (hxc d).toNat ≠ 59:=by split at e <;> omega
   unfold step sized
   dsimp only
   rw [if_pos (by omega),if_neg (fun h => h1.1 h.1),if_neg (by omega),if_neg (by omega),if_neg (fun h => h1.2 h.1),hexv_hxc hd]
   dsimp only
   rw [if_neg (by omega),if_neg (by omega)]
  by_cases h1 : n < 16
  ·rw [hexs_small h1]
   have e:=dig 0 n 0 h1 (by omega) (by omega); rw [show (⟨0,0,0,0,T,lf,0,[],[],0⟩ : St) = fresh T lf from rfl] at e
   rw [wr_single (by simp [fresh]) (by rw [e]),e,if_neg (by simp [fresh])]
   simp
  ·have hl:=hexs_five (n:=n / 16) (by omega)
   have hl2:=hexs_five (n:=n) (by omega); rw [hexs_big h1,List.length_append,List.length_singleton] at hl2
   rw [hexs_big h1,wr_append,ih (n / 16) (by omega) T lf (by omega)]
   dsimp only
   have e:=dig (n / 16) (n % 16) (hexs (n / 16)).length (by omega) (by omega) (by omega); rw [show 16 * (n / 16) + n % 16 = n by omega] at e
   rw [wr_single (by simp) (by rw [e]),e,if_neg (by simp)]
   simp
def chk (b : List UInt8) : List UInt8:=if b = [] then [] else hexs b.length ++ ([13,10] ++ (b ++ [13,10]))
theorem wr_two {s : St} {a b : UInt8} {s1 s2 : St} (h : ¬ (s.bad ≠ 0 ∨ s.place = 8)) (h3 : s.place ≠ 3) (e1 : step s a = s1) (h1 : ¬ (s1.bad ≠ 0 ∨ s1.place = 8)) (h13 : s1.place ≠ 3) (e2 : step s1 b = s2) (h2 : s2.bad = 0) : wr s [a,b] = (s2,[],2):=by
 rw [wr_go h (by rw [e1]; omega),if_neg h3,e1,wr_single h1 (by rw [e2]; exact h2),e2,if_neg h13]
theorem wr_size {n T lf : Nat} (h : T + n ≤ 65536) (h1 : 1 ≤ n) : wr (fresh T lf) (hexs n ++ [13,10]) = (⟨3,(hexs n).length,n,(hexs n).length,T,n,0,[],[],0⟩,[],(hexs n).length + 2):=by
 have hp:=hexs_pos n; rw [wr_append,wr_hexs n T lf h]
 dsimp only
 rw [wr_two (s1:=⟨2,(hexs n).length,n,(hexs n).length,T,lf,0,[],[],0⟩) (s2:=⟨3,(hexs n).length,n,(hexs n).length,T,n,0,[],[],0⟩) (by simp) (by simp) ?_ (by simp) (by simp) ?_ rfl]
 ·simp
 ·unfold step sized; dsimp only; rw [if_pos (by omega),if_pos ⟨by decide,hp⟩]
 ·unfold step; dsimp only; rw [if_neg (by omega),if_pos rfl,if_neg (by decide),if_neg (by omega)]
theorem wr_chunk {b : List UInt8} {T lf : Nat} (h : T + b.length ≤ 65536) (h1 : 1 ≤ b.length) : wr (fresh T lf) (chk b) = (fresh (T + b.length) 0,b,(chk b).length):=by
 unfold chk
 rw [if_neg (by rintro rfl; simp at h1),← List.append_assoc,wr_append,wr_size h h1]
 dsimp only
 rw [wr_append,wr_dat b _ rfl rfl h1 (Nat.le_refl _)]
 dsimp only
 have e : dat ⟨3,(hexs b.length).length,b.length,(hexs b.length).length,T,b.length,0,[],[],0⟩ b.length = ⟨4,(hexs b.length).length,b.length,(hexs b.length).length,T + b.length,0,0,[],[],0⟩:=by unfold dat; rw [if_pos rfl]
 rw [e,wr_two (s1:=⟨5,(hexs b.length).length,b.length,(hexs b.length).length,T + b.length,0,0,[],[],0⟩) (s2:=fresh (T + b.length) 0) (by simp) (by simp) rfl (by simp) (by simp) rfl rfl]
 simp only [List.nil_append,List.append_nil,List.length_append,List.length_cons,List.length_nil]
end Ck
end Go.Proofs.YtjffffpfejmoiaaGreatDoor
namespace Go.Proofs.YtjffffpfejmoiaaGreatDoor
open Go.RowKit Syn Ck
set_option maxHeartbeats 1000000 in
theorem pow2_16 (w : World) : Calls Tryz.prog 148 #[.int .i64 16] w fun e w' => e = .returned (.bool true) ∧ w' = w:=by
 go_enter Tryz.func148,Tryz.ntmps148
 go_wp2; go_ret; exact ⟨rfl,rfl⟩
set_option maxHeartbeats 1000000 in
theorem tz64_16 (w : World) (hT : w.cell? ⟨5,15,none⟩ = some (.int .u8 4)) : Calls Tryz.prog 156 #[.int .u64 16] w fun e w' => e = .returned (.int .i64 4) ∧ w' = w:=by
 have h1 : IntKind.u64.wrap (-16) = 18446744073709551600:=by decide
 have h2 : bits BinOp.and IntKind.u64 16 18446744073709551600 = 16:=by decide
 have h3 : IntKind.u64.wrap (16 * 285870213051353865) = 4573923408821661840:=by decide
 go_enter Tryz.func156,Tryz.ntmps156
 go_wp2; go_ret; exact ⟨rfl,rfl⟩
set_option maxHeartbeats 1000000 in
theorem tz_16 (w : World) (hT : w.cell? ⟨5,15,none⟩ = some (.int .u8 4)) : Calls Tryz.prog 149 #[.int .u64 16] w fun e w' => e = .returned (.int .i64 4) ∧ w' = w:=by
 replace hT:=Hj hT; go_enter Tryz.func149,Tryz.ntmps149
 go_wp2_with fail
 refine (tz64_16 _ hT.out).mono ?_
 rintro e w' ⟨rfl,rfl⟩
 go_wp2; go_ret; exact ⟨rfl,rfl⟩
namespace Ck
def digs : ByteArray:=⟨#[48,49,50,51,52,53,54,55,56,57,97,98,99,100,101,102,103,104,105,106,107,108,109,110,111,112,113,114,115,116,117,118,119,120,121,122]⟩
theorem digs_at : ∀ (d : Fin 16),digs[d.1]'(by have:=d.2; show d.1 < 36; omega) = hxc d.1:=by decide
theorem and15 (u : Nat) (h : u < 18446744073709551616) : bits .and .u64 (u : Int) 15 = ((u % 16 : Nat) : Int):=by
 have e:=bits_and_u64_nat u 15 h (by decide); rw [show u &&& 15 = u % 16 from Nat.and_two_pow_sub_one_eq_mod u 4] at e
 exact e
theorem drop_set {cs : Array Value} {m : Nat} {v : Value} (h : m < cs.size) : (cs.setIfInBounds m v).toList.drop m = v :: cs.toList.drop (m + 1):=by
 rw [Array.toList_setIfInBounds,List.drop_eq_getElem_cons (by rw [List.length_set]; exact h),List.getElem_set_self,List.drop_set_of_lt (by omega)]
theorem dig_val {d : Nat} (h : d < 16) : Value.int .u8 (((digs[d]'(by show d < 36; omega)).toNat : Nat) : Int) = .int .u8 ((hxc d).toNat : Int):=by rw [digs_at ⟨d,h⟩]
def dv (u : Nat) (h : u < 16) : Value:=.int .u8 (((digs[u]'(by show u < 36; omega)).toNat : Nat) : Int)
theorem u8s_cons (c : UInt8) (l : List UInt8) : u8s (c :: l) = .int .u8 (c.toNat : Int) :: u8s l:=rfl
def FI (w : World) (n : Nat) (uv iv : Value) (wx : World) : Prop :=
 ∃ (u i : Nat) (suf : List UInt8) (cs : Array Value),uv = .int .u64 (u : Int) ∧ iv = .int .i64 (i : Int) ∧ i + suf.length = 65 ∧ u ≤ n ∧ Hid (hexs n = hexs u ++ suf) ∧ Hid (∃ ty,Blk wx w.heap.size ty cs) ∧ cs.size = 65 ∧ Hid (cs.toList.drop i = u8s suf) ∧ Hid (Below w.heap.size w wx)
end Ck
set_option maxRecDepth 100000 in
set_option maxHeartbeats 4000000 in
theorem fmtbits_16 (n : Nat) (w : World) (hn : n < 9223372036854775808) (hT : w.cell? ⟨5,15,none⟩ = some (.int .u8 4)) :
  Calls Tryz.prog 132 #[.slice none 0 0,.int .u64 (n : Int),.int .i64 16,.bool false,.bool true] w fun e w' =>
   ∃ v,e = .returned (.tuple #[v,.string ⟨#[]⟩]) ∧ Own w' w.heap.size 5 1 v (hexs n).length (u8s (hexs n)) ∧ Below w.heap.size w w':=by
 have h5:=cell_lt hT; have hln:=hexs_len 15 n (by omega); replace hT:=Hj hT; go_enter Tryz.func132,Tryz.ntmps132
 go_wp2_with fail
 refine (pow2_16 _).mono ?_
 rintro e w1 ⟨rfl,hw1⟩
 have hz0:=Tryz.zeroCells185; have hB1 : Below w.heap.size w w1:=by rw [hw1]; exact (Below.refl _ _).alloc (Nat.le_refl _) _
 have hK1 : ∃ ty cs,Blk w1 w.heap.size ty cs ∧ cs.size = 65:=⟨_,_,by rw [hw1]; exact Blk.new w _ _,by decide⟩
 clear hw1; have hT1:=Hj ((hB1.cell (p:=⟨5,15,none⟩) h5).trans hT.out); replace hB1:=Hj hB1; go_wp2_with fail
 refine (tz_16 _ hT1.out).mono ?_
 rintro e w2 ⟨rfl,rfl⟩
 obtain ⟨ty,cs,hK,hcs⟩:=hK1
 have hst : FI w n (.int .u64 (n : Int)) (.int .i64 65) w2:=⟨n,65,[],cs,rfl,rfl,rfl,Nat.le_refl _,Hj (by rw [List.append_nil]),Hj ⟨ty,hK⟩,hcs,Hj (by rw [List.drop_of_length_le (by simp [hcs])]; rfl),hB1⟩
 clear hK hcs; go_wp2; go_loopw [1,13] (fun u i wx => FI w n u i wx) (fun u _ _ => (intOf u).toNat)
 case atStart => exact hst
 case round =>
  clear hst; obtain ⟨u,i,suf,cs,rfl,rfl,hi,hun,hhx,hK,hcs,hdr,hB⟩:=hrel
  obtain ⟨ty,hK'⟩:=hK.out
  have hlen : (hexs n).length = (hexs u).length + suf.length:=by rw [hhx.out,List.length_append]
  have hpos:=hexs_pos u; have hci : ∃ v,wr.cell? ⟨w.heap.size,i - 1,none⟩ = some v:=by
   rw [hK'.cell (i - 1)]
   exact ⟨cs[i - 1]'(by omega),Array.getElem?_eq_getElem _⟩
  obtain ⟨ov,c1⟩:=hci
  have f1:=hK'.frozen (i - 1); obtain ⟨m,rfl⟩ : ∃ m,i = m + 1:=⟨i - 1,by omega⟩
  rw [Nat.add_sub_cancel] at c1 f1
  by_cases hu : u < 16
  ·have hms : m < cs.size:=by omega
   have hh2:=hhx.out; rw [hexs_small hu] at hh2
   have hl2 : (hexs n).length = 65 - m:=by rw [hh2,List.length_append,List.length_singleton]; omega
   have hv:=dig_val hu; have hK2:=hK'.set_ m (dv u hu); have hnew : ∀ j x,(u8s (hexs n))[j]? = some x → (wr.setCell ⟨w.heap.size,m,none⟩ (dv u hu)).cell? ((⟨w.heap.size,m,none⟩ : Addr).add j) = some x:=fun j x hx => by
    have hadd : (⟨w.heap.size,m,none⟩ : Addr).add j = ⟨w.heap.size,m + j,none⟩:=by unfold Addr.add; split <;> simp_all
    rw [hadd,hK2.cell (m + j)]
    have e1:=drop_set (v:=dv u hu) hms; rw [hdr.out,show dv u hu = .int .u8 ((hxc u).toNat : Int) from hv,← u8s_cons,show hxc u :: suf = hexs n from hh2.symm] at e1
    rw [← e1,List.getElem?_drop,Array.getElem?_toList] at hx
    rw [show dv u hu = .int .u8 ((hxc u).toNat : Int) from hv]
    exact hx
   have hB2:=hB.out.setCell (p:=⟨w.heap.size,m,none⟩) (Nat.le_refl _) (dv u hu); have hs2':=hB2.size; have h1c:=u8s_one (hexs n); have hl3 : (u8s (hexs n)).length = (65 - m) * 1:=by rw [u8s_length,hl2,Nat.mul_one]
   have hsl : ∀ W : World,(Instr.sliceAt 185 (.pointer (some ⟨w.heap.size,0,none⟩)) (some (.int .i64 (m : Int))) none none).run Tryz.prog W = .ok (.slice (some ⟨w.heap.size,m,none⟩) (65 - m) (65 - m)) W:=fun W => by
    have hl : Tryz.prog.arrayLen 185 = 65:=by kernel_rfl
    have hs : (sizeOf (Tryz.prog.elem 185)).run Tryz.prog W = .ok 1 W:=by kernel_rfl
    have h:=run_sliceAt_array_l (P:=Tryz.prog) W 185 ⟨w.heap.size,0,none⟩ (by kernel_rfl) .i64 (m : Int) (by omega) (by rw [hl]; omega)
    rw [hl,hs] at h
    rw [h]
    have hadd : (⟨w.heap.size,0,none⟩ : Addr).add m = ⟨w.heap.size,m,none⟩:=by unfold Addr.add; split <;> simp_all
    simp [slicedAt,Result.andThen,hadd,show ¬ 65 = m by omega]
   replace hnew:=Hj hnew; replace h1c:=Hj h1c; replace hl3:=Hj hl3; replace hB2:=Hj hB2; replace hh2:=Hj hh2; replace hv:=Hj hv; clear hK' hK2 hdr hK hB; go_wp2_with (at_builtin; go_loud (refine step_pushB (v:=.slice none 0 0) (n:=0) (m:=65 - m) (c:=65 - m) (xs:=[]) (news:=u8s (hexs n)) (ad:=⟨w.heap.size,m,none⟩) (B:=w.heap.size) 23 5 (.int .u8 0) 1 1 _ _ rfl rfl Tryz.underlying23 infoU8 rfl (by decide) (by decide) rfl (own_nil _ _ _ _) rfl hl3.out (by exact hnew.out) h1c.out (by omega) (by exact hs2') ?_); intro v5 w5 ho5 hg5 _; go_loud (have hB5 : Below w.heap.size w w5:=hB2.out.trans (below_grown (own_nil _ w.heap.size 5 1) hg5 hs2')); replace ho5:=Hj ho5; replace hB5:=Hj hB5; clear hg5)
   go_ret2
   exact ⟨_,rfl,by have h:=ho5.out; rw [Nat.zero_add,List.nil_append,← hl2] at h; exact h,hB5.out⟩
  ·have hb15:=and15 u (by omega)
   obtain ⟨d,hd⟩ : ∃ d,u % 16 = d:=⟨_,rfl⟩
   have hd16 : d < 16:=by omega
   rw [hd] at hb15
   replace hd:=Hj hd; replace hhx:=Hj hhx; go_wp2; have hms : m < cs.size:=by omega
   refine ⟨⟨u / 16,m,hxc d :: suf,_,by rw [show ((u / 16 : Nat) : Int) = (u : Int) / 16 by omega],rfl,by rw [List.length_cons]; omega,by omega,Hj ?_,Hj ⟨ty,hK'.set_ m _⟩,by rw [Array.size_setIfInBounds]; exact hcs,Hj ?_,Hj (hB.out.setCell (p:=⟨w.heap.size,m,none⟩) (Nat.le_refl _) _)⟩,?_⟩
   ·rw [hhx.out,hexs_big hu,hd.out,List.append_assoc]; rfl
   ·rw [drop_set hms,hdr.out,u8s_cons]
    congr 1
    exact dig_val hd16
   ·simp only [intOf]; omega
set_option maxHeartbeats 2000000 in
theorem appuint_16 (n : Nat) (w : World) (hn : n < 9223372036854775808) (hT : w.cell? ⟨5,15,none⟩ = some (.int .u8 4)) :
  Calls Tryz.prog 109 #[.slice none 0 0,.int .u64 (n : Int),.int .i64 16] w fun e w' => ∃ v,e = .returned v ∧ Own w' w.heap.size 5 1 v (hexs n).length (u8s (hexs n)) ∧ Below w.heap.size w w':=by
 have hI:=Hj (fmtbits_16 n w hn hT); replace hT:=Hj hT; go_enter Tryz.func109,Tryz.ntmps109
 go_wp2_with fail
 refine hI.out.mono ?_
 rintro e w2 ⟨v,rfl,ho,hb⟩
 replace ho:=Hj ho; replace hb:=Hj hb; go_wp2; go_ret; exact ⟨_,rfl,ho.out,hb.out⟩
set_option maxHeartbeats 2000000 in
theorem iappint_16 (n : Nat) (w : World) (hn : n < 9223372036854775808) (hT : w.cell? ⟨5,15,none⟩ = some (.int .u8 4)) :
  Calls Tryz.prog 87 #[.slice none 0 0,.int .i64 (n : Int),.int .i64 16] w fun e w' => ∃ v,e = .returned v ∧ Own w' w.heap.size 5 1 v (hexs n).length (u8s (hexs n)) ∧ Below w.heap.size w w':=by
 have hI:=Hj (appuint_16 n w hn hT); replace hT:=Hj hT; go_enter Tryz.func87,Tryz.ntmps87
 go_wp2_with fail
 refine hI.out.mono ?_
 rintro e w2 ⟨v,rfl,ho,hb⟩
 replace ho:=Hj ho; replace hb:=Hj hb; go_wp2; go_ret; exact ⟨_,rfl,ho.out,hb.out⟩
set_option maxHeartbeats 2000000 in
theorem appint_16 (n : Nat) (w : World) (hn : n < 9223372036854775808) (hT : w.cell? ⟨5,15,none⟩ = some (.int .u8 4)) :
  Calls Tryz.prog 65 #[.slice none 0 0,.int .i64 (n : Int),.int .i64 16] w fun e w' => ∃ v,e = .returned v ∧ Own w' w.heap.size 5 1 v (hexs n).length (u8s (hexs n)) ∧ Below w.heap.size w w':=by
 have hI:=Hj (iappint_16 n w hn hT); replace hT:=Hj hT; go_enter Tryz.func65,Tryz.ntmps65
 go_wp2_with fail
 refine hI.out.mono ?_
 rintro e w2 ⟨v,rfl,ho,hb⟩
 replace ho:=Hj ho; replace hb:=Hj hb; go_wp2; go_ret; exact ⟨_,rfl,ho.out,hb.out⟩
end Go.Proofs.YtjffffpfejmoiaaGreatDoor
namespace Go.Proofs.YtjffffpfejmoiaaGreatDoor
open Go.RowKit Syn Ck
theorem push_crlf {ops : Array Oper} {rest : List Oper} {o : Oper} {a : Act} {Q : Exit → Act → World → Prop} {w : World} (s x : Operand)
  (hgd : o.guard = none) (ho : o.op = .call { callee:=.builtin .append,args:=#[s,x],argTypes:=#[23,9] })
  {B : Nat} {v : Value} {l : List UInt8} (hs : a.eval s = v) (hown : Own w B 5 1 v l.length (u8s l)) (hx : a.eval x = .string ⟨#[13,10]⟩) (hn : l.length ≤ 10000000000) (hB : B ≤ w.heap.size)
  (h : ∀ v' w',Own w' B 5 1 v' (l ++ [13,10]).length (u8s (l ++ [13,10])) → Below B w w' → wpList Tryz.prog ops Q rest (a.put o.dst v') w') : wpList Tryz.prog ops Q (o :: rest) a w:=by
 have hi:=infoU8; cases hP : Tryz.prog.info? 5 with
 | none => rw [hP] at hi; cases hi
 | some i =>
  rw [hP] at hi
  simp only [Option.map_some,Option.some.injEq,Prod.mk.injEq] at hi
  obtain ⟨hz,hsize,hbytes⟩:=hi
  refine Lib.wpList_append_own_string (P:=Tryz.prog) w hgd s x 23 9 ho B 5 i Tryz.underlying23 Tryz.underlying9 hP hz hsize hbytes v l.length (u8s l) hs hown ⟨#[13,10]⟩ hx (by show l.length + 2 ≤ maxLen; unfold maxLen; omega) (by show l.length + 2 ≤ _; omega) hB ?_
  intro v' w' hown' hg _; refine h v' w' ?_ (below_grown hown hg hB)
  rw [List.length_append,u8s_app]
  exact hown'
set_option maxRecDepth 100000 in
set_option maxHeartbeats 4000000 in
theorem chunk_any (b : List UInt8) (A : Option Addr) (cap : Nat) (w : World) (hR : Rd w 1 (.slice A b.length cap) b.length (u8s b)) (hm : b.length ≤ 1000000) (hT : w.cell? ⟨5,15,none⟩ = some (.int .u8 4)) :
  Calls Tryz.prog 38 #[.slice A b.length cap] w fun e w' => ∃ v,e = .returned v ∧ Own w' w.heap.size 5 1 v (chk b).length (u8s (chk b)) ∧ Below w.heap.size w w':=by
 by_cases h0 : b = []
 ·subst h0
  have hq : (((List.length (α:=UInt8) []) : Int) == 0) = true:=rfl
  clear hR hT; go_enter Tryz.func38,Tryz.ntmps38
  go_wp2; go_ret; exact ⟨_,rfl,own_nil _ _ _ _,Below.refl _ _⟩
 ·have hq : ((b.length : Int) == 0) = false:=beq_cast_false (fun e => h0 (List.eq_nil_of_length_eq_zero e))
  have hck : chk b = hexs b.length ++ [13,10] ++ b ++ [13,10]:=by unfold chk; rw [if_neg h0]; simp
  have hI:=Hj (appint_16 b.length w (by omega) hT); have hhl:=hexs_len 15 b.length (by omega); have h1c:=Hj (u8s_one b); replace hR:=Hj hR; replace hck:=Hj hck; replace h0:=Hj h0; clear hT; go_enter Tryz.func38,Tryz.ntmps38
  go_wp2_with fail
  refine hI.out.mono ?_
  rintro e w1 ⟨v1,rfl,ho1,hb1⟩
  have hs1:=hb1.size; have hR1:=hR.out.below hb1; generalize hexs b.length = hx at *; replace ho1:=Hj ho1; replace hb1:=Hj hb1; replace hR1:=Hj hR1; go_wp2_with (at_builtin; first
   | (refine push_crlf (v:=v1) (l:=hx) (B:=w.heap.size) _ _ rfl rfl rfl ho1.out rfl (by omega) hs1 ?_; intro v2 w2 ho2 hb2; have hs2:=hb2.size; have hB2:=Hj (hb1.out.trans hb2); have hR2:=Hj (hR.out.below (hb1.out.trans hb2)); have hs2':=(hb1.out.trans hb2).size; replace ho2:=Hj ho2; clear hb2)
   | (refine step_pushR (v:=v2) (n:=(hx ++ [13,10]).length) (m:=b.length) (xs:=u8s (hx ++ [13,10])) (news:=u8s b) (c:=cap) (A:=A) (B:=w.heap.size) 23 5 (.int .u8 0) 1 1 _ _ rfl rfl Tryz.underlying23 infoU8 rfl (by decide) (by decide) rfl ho2.out rfl hR2.out h1c.out (by rw [List.length_append]; simp; omega) hs2' ?_; intro v3 w3 ho3 hg3 _; have hb3:=below_grown ho2.out hg3 hs2'; have hB3:=Hj (hB2.out.trans hb3); have hs3':=(hB2.out.trans hb3).size; replace ho3 : Own w3 w.heap.size 5 1 v3 (hx ++ [13,10] ++ b).length (u8s (hx ++ [13,10] ++ b)):=(by rw [List.length_append (bs:=b),u8s_app (b:=b)]; exact ho3); replace ho3:=Hj ho3; clear hg3 hb3)
   | (refine push_crlf (v:=v3) (l:=hx ++ [13,10] ++ b) (B:=w.heap.size) _ _ rfl rfl rfl ho3.out rfl (by rw [List.length_append,List.length_append]; simp; omega) hs3' ?_; intro v4 w4 ho4 hb4; have hB4:=Hj (hB3.out.trans hb4); replace ho4:=Hj ho4; clear hb4))
  go_ret; exact ⟨_,rfl,by rw [hck.out]; exact ho4.out,hB4.out⟩
end Go.Proofs.YtjffffpfejmoiaaGreatDoor
namespace Go.Proofs.YtjffffpfejmoiaaGreatDoor
open Go.RowKit Syn
namespace Ck
def okF (p : List UInt8 × List UInt8) : Bool:=decide (nmE p.1 = 0) && (decide (vlE p.2 = 0) && (decide (vlV p.2 = p.2) && !forb (nmV p.1)))
def fl (p : List UInt8 × List UInt8) : List UInt8:=nmV p.1 ++ [58,32] ++ p.2 ++ [13,10]
def txt (l : List (List UInt8 × List UInt8)) : List UInt8:=l.flatMap fl
def okL (l : List (List UInt8 × List UInt8)) : Bool:=l.all okF
def lastB (l : List (List UInt8 × List UInt8)) : List UInt8:=[48,13,10] ++ (txt l ++ [13,10])
def fitL (l : List (List UInt8 × List UInt8)) : Bool:=decide ((txt l).length + 2 ≤ 8192) && decide (l.length ≤ 64)
theorem okF_of {p : List UInt8 × List UInt8} (h : okF p = true) : nmE p.1 = 0 ∧ vlE p.2 = 0 ∧ vlV p.2 = p.2 ∧ forb (nmV p.1) = false:=by
 unfold okF at h
 simp only [Bool.and_eq_true,decide_eq_true_eq,Bool.not_eq_true'] at h
 exact ⟨h.1,h.2.1,h.2.2.1,h.2.2.2⟩
theorem okL_take {l : List (List UInt8 × List UInt8)} {k : Nat} (h : k < l.length) : okL (l.take (k + 1)) = (okL (l.take k) && okF l[k]):=by
 unfold okL; rw [List.take_succ_eq_append_getElem h,List.all_append]; simp
theorem okL_no {l : List (List UInt8 × List UInt8)} {k : Nat} (h : k < l.length) (h2 : okF l[k] = false) : okL l = false:=by
 unfold okL
 rw [List.all_eq_false]
 exact ⟨l[k],List.getElem_mem h,by rw [h2]; simp⟩
theorem txt_take {l : List (List UInt8 × List UInt8)} {k : Nat} (h : k < l.length) : txt (l.take (k + 1)) = txt (l.take k) ++ fl l[k]:=by
 unfold txt; rw [List.take_succ_eq_append_getElem h,List.flatMap_append]; simp
theorem nmV_len (x : List UInt8) : (nmV x).length ≤ 64:=by
 by_cases h : nmE x = 0
 ·unfold nmV
  rw [if_pos h]
  unfold nmE at h
  split at h
  ·split at h
   ·cases h
   ·unfold Syn.lower; rw [List.length_map]; omega
  ·cases h
 ·unfold nmV; rw [if_neg h]; simp
theorem vlV_len {x : List UInt8} (h : vlE x = 0) : (vlV x).length ≤ 2048:=by
 unfold vlV
 rw [if_pos h]
 unfold vlE at h
 split at h
 ·split at h
  ·cases h
  ·omega
 ·cases h
theorem fl_len {p : List UInt8 × List UInt8} (h : okF p = true) : (fl p).length ≤ 2200:=by
 obtain ⟨-,h2,h3,-⟩:=okF_of h
 have h4:=vlV_len h2; rw [h3] at h4
 have:=nmV_len p.1
 unfold fl
 simp only [List.length_append,List.length_cons,List.length_nil]
 omega
theorem txt_len : ∀ (l : List (List UInt8 × List UInt8)),okL l = true → (txt l).length ≤ l.length * 2200
 | [],_ => by simp [txt]
 | p :: r,h => by
  unfold okL at h
  rw [List.all_cons,Bool.and_eq_true] at h
  have h1:=fl_len h.1; have h2:=txt_len r h.2; have e : txt (p :: r) = fl p ++ txt r:=rfl
  rw [e,List.length_append,List.length_cons,Nat.add_mul]
  omega
end Ck
end Go.Proofs.YtjffffpfejmoiaaGreatDoor
namespace Go.Proofs.YtjffffpfejmoiaaGreatDoor
open Go.RowKit Syn Ck
namespace Ck
def LastR (w : World) (l : List (List UInt8 × List UInt8)) (e : Ending) (w' : World) : Prop :=
 ∃ o,e = .returned (.tuple #[o,errV (if (okL l && fitL l) = true then 0 else 34)]) ∧ OwnM w' w.heap.size o (if (okL l && fitL l) = true then lastB l else []) ∧ Below w.heap.size w w'
theorem LastR.bad {w w' : World} {l : List (List UInt8 × List UInt8)} (h : (okL l && fitL l) = false) (hb : Below w.heap.size w w') : LastR w l (.returned (.tuple #[.slice none 0 0,.iface 57 (.int .i64 34)])) w' :=
 ⟨.slice none 0 0,by rw [h]; rfl,by rw [h]; exact .inl ⟨rfl,rfl⟩,hb⟩
theorem LastR.good {w w' : World} {l : List (List UInt8 × List UInt8)} {o : Value} (h : (okL l && fitL l) = true) (ho : OwnM w' w.heap.size o (lastB l)) (hb : Below w.heap.size w w') : LastR w l (.returned (.tuple #[o,.nilIface])) w' :=
 ⟨o,by rw [h]; rfl,by rw [h]; exact ho,hb⟩
theorem okF_iff (n v : List UInt8) : okF (n,v) = true ↔ nmE n = 0 ∧ vlE v = 0 ∧ vlV v = v ∧ forb (nmV n) = false:=by
 unfold okF; simp [Bool.and_eq_true]
theorem Bld.below {w w' : World} {B b : Nat} {l : List UInt8} (h : Bld w B b l) (hb : Below w.heap.size w w') : Bld w' B b l:=by
 have : ∀ p,Lib.BuilderAt 123 5 B b p (Lib.byteCells l) w → Lib.BuilderAt 123 5 B b p (Lib.byteCells l) w':=fun p ⟨h1,v,h2,h3,h4⟩ => ⟨h1,v,(hb.block b (Blk.lt (t:=123) (cs:=#[p,v]) h2)).trans h2,own_below h3 hb,h4⟩
 exact h.imp (this _) (this _)
theorem Bld.drew {w : World} {B b : Nat} {l : List UInt8} (h : Bld w B b l) : Bld w.drew B b l:=h
end Ck
set_option maxRecDepth 100000 in
set_option maxHeartbeats 16000000 in
theorem last_any (l : List (List UInt8 × List UInt8)) (v : Value) (w : World) (hR : Rd w 2 v l.length (prs l)) (hs : ∀ p ∈ l,p.1.length ≤ 100000 ∧ p.2.length ≤ 100000) (hm : l.length ≤ 140737488355328) :
  Calls Tryz.prog 39 #[v] w (LastR w l):=by
 obtain ⟨A,cap,rfl,hcap,-,-⟩:=id hR; by_cases h64 : 64 < l.length
 ·have hf : (okL l && fitL l) = false:=by unfold fitL; rw [decide_eq_false (p:=l.length ≤ 64) (by omega)]; simp
  replace hR:=Hj hR; replace hs:=Hj hs; replace hf:=Hj hf; go_enter Tryz.func39,Tryz.ntmps39
  go_wp2; go_ret2
  exact LastR.bad hf.out (Below.refl _ _)
 ·have hBw:=Bld.new w
  have hB0:=(Below.refl w.heap.size w).alloc (Nat.le_refl _) (.cells #[.pointer none,.slice none 0 0] 123); replace hR:=Hj hR; replace hs:=Hj hs; replace hBw:=Hj hBw; replace hB0:=Hj hB0; go_enter Tryz.func39,Tryz.ntmps39
  go_wp2; go_loopw [16] (fun i wr => ∃ k : Nat,i = .int .i64 (k : Int) ∧ k ≤ l.length ∧ Hid (okL (l.take k) = true) ∧ Hid (Bld wr w.heap.size w.heap.size (txt (l.take k))) ∧ Hid (Below w.heap.size w wr)) (fun i _ => l.length - (intOf i).toNat)
  case atStart => exact ⟨0,rfl,by omega,Hj rfl,hBw,hB0⟩
  case round =>
   clear hBw hB0; obtain ⟨k,rfl,hk,hok,hbl,hB⟩:=hrel
   have hBs:=hB.out.size; by_cases hlt : k < l.length
   ·obtain ⟨A',cap',e',-,-,r'⟩:=hR.out.below hB.out
    cases e'; obtain ⟨b1,o1,rfl,hb1,x1⟩:=r' (by omega)
    have d1 : wr.cell? ⟨b1,o1 + k * 2,none⟩ = some (.string (str l[k].1)):=x1 _ _ (prs_at0 hlt)
    have d2 : wr.cell? ⟨b1,o1 + k * 2 + 1,none⟩ = some (.string (str l[k].2)):=x1 _ _ (prs_at1 hlt)
    have hsz:=hs.out l[k] (List.getElem_mem hlt); have hokT:=okL_take hlt; have hokN:=okL_no hlt; have htx:=txt_take hlt; rw [hok.out,Bool.true_and] at hokT
    have hlx:=txt_len (l.take k) hok.out; rw [List.length_take,Nat.min_eq_left hk] at hlx
    generalize l[k] = p at *; obtain ⟨nm,vl⟩:=p
    simp only at d1 d2 hsz
    clear x1 r'; have hokI:=okF_iff nm vl; have hN:=fname_any (str nm) (wr.alloc (.cells #[.string (str nm),.string (str vl)] 26)) (by rw [str_size]; omega)
    have hV:=fun w => fvalue_any (str vl) w (by rw [str_size]; omega)
    rw [bs_str] at hN
    simp only [bs_str] at hV
    have hO:=fun w => forbidden_any (nmV nm) w
    have hnl:=nmV_len nm; have hA1:=hB.out.alloc hBs (.cells #[.string (str nm),.string (str vl)] 26); have hbl1:=hbl.out.below ((Below.refl _ _).alloc (Nat.le_refl _) (.cells #[.string (str nm),.string (str vl)] 26)); have hF1:=Blk.new wr 26 #[.string (str nm),.string (str vl)]; replace hA1:=Hj hA1; replace hbl1:=Hj hbl1; replace hF1:=Hj hF1; replace hV:=Hj hV; replace hO:=Hj hO; replace htx:=Hj htx; replace hokT:=Hj hokT; have hbad : ¬ okF (nm,vl) = true → (okL l && fitL l) = false:=fun h => by rw [hokN (by simpa using h)]; rfl
    rw [hokI] at hbad
    replace hbad:=Hj hbad; clear hokN; by_cases k1 : nmE nm = 0
    ·rw [k1,errV_zero] at hN
     by_cases k3 : forb (nmV nm) = true
     ·have hb9:=hbad.out (fun h => by rw [h.2.2.2] at k3; cases k3)
      have hO3 : ∀ w,Calls Tryz.prog 66 #[.string (str (nmV nm))] w fun e w' => e = .returned (.bool true) ∧ w' = w:=by rw [← k3]; exact hO.out
      clear hO; have hO:=Hj hO3; clear hO3; replace hb9:=Hj hb9; replace k1:=Hj k1; replace k3:=Hj k3; replace hN:=Hj hN; clear hbad hokI; generalize str (nmV nm) = s1 at *; go_wp2_with fail
      refine hN.out.mono ?_
      rintro e w3 ⟨rfl,hb3⟩
      have hB3:=Hj (Below.next hA1.out hA1.out.size hb3); have hF3:=hF1.out.below hb3; have d3:=hF3.cell 1; replace hF3:=Hj hF3; have hbl3:=Hj (hbl1.out.below hb3); clear hb3; go_wp2_with fail
      refine (hO.out _).mono ?_
      rintro e w4 ⟨rfl,rfl⟩
      go_wp2; go_ret2
      exact LastR.bad hb9.out hB3.out
     ·rw [Bool.not_eq_true] at k3
      have hO3 : ∀ w,Calls Tryz.prog 66 #[.string (str (nmV nm))] w fun e w' => e = .returned (.bool false) ∧ w' = w:=by rw [← k3]; exact hO.out
      clear hO; have hO:=Hj hO3; clear hO3; by_cases k2 : vlE vl = 0
      ·by_cases k4 : vlV vl = vl
       ·have hof : okF (nm,vl) = true:=hokI.2 ⟨k1,k2,k4,k3⟩
        have hV3:=hV.out; rw [k2,errV_zero,k4] at hV3
        clear hV; have hV:=Hj hV3; clear hV3; have hok2:=Hj (hokT.out.trans hof); have qs:=str_eq (a:=vl) (b:=vl) rfl; have hW : ∀ w',Bld w' w.heap.size w.heap.size (txt (l.take k)) → w.heap.size ≤ w'.heap.size → Calls Tryz.prog 67 #[.pointer (some ⟨w.heap.size,0,none⟩),.string (str (nmV nm) ++ ⟨#[58,32]⟩ ++ str vl ++ ⟨#[13,10]⟩)] w' fun e w'' =>
          e = .returned (.tuple #[.int .i64 ((fl (nm,vl)).length : Int),.nilIface]) ∧ Bld w'' w.heap.size w.heap.size (txt (l.take (k + 1))) ∧ Below w.heap.size w' w'':=fun w' hb hl => by
         have e : str (nmV nm) ++ (⟨#[58,32]⟩ : ByteArray) ++ str vl ++ (⟨#[13,10]⟩ : ByteArray) = str (fl (nm,vl)):=by
          rw [show (⟨#[58,32]⟩ : ByteArray) = str [58,32] from rfl,show (⟨#[13,10]⟩ : ByteArray) = str [13,10] from rfl,str_append,str_append,str_append]
          rfl
         rw [e,htx.out]
         have hfl:=fl_len hof; exact bwrite_any hb (by omega) hl
        have z1 : (str (nmV nm)).size ≤ 64:=by rw [str_size]; exact hnl
        have z2 : (str vl).size ≤ 100000:=by rw [str_size]; exact hsz.2
        replace hW:=Hj hW; replace hof:=Hj hof; replace k1:=Hj k1; replace k2:=Hj k2; replace k3:=Hj k3; replace k4:=Hj k4; replace hN:=Hj hN; clear hbad hokI; generalize str (nmV nm) = s1 at *; generalize str vl = s2 at *; go_wp2_with fail
        refine hN.out.mono ?_
        rintro e w3 ⟨rfl,hb3⟩
        have hB3:=Hj (Below.next hA1.out hA1.out.size hb3); have hF3:=hF1.out.below hb3; have d3:=hF3.cell 1; replace hF3:=Hj hF3; have hbl3:=Hj (hbl1.out.below hb3); clear hb3; go_wp2_with fail
        refine (hO.out _).mono ?_
        rintro e w4 ⟨rfl,rfl⟩
        go_wp2_with fail
        refine (hV.out _).mono ?_
        rintro e w5 ⟨rfl,hb5⟩
        have hB5:=Hj (Below.next hB3.out hB3.out.size hb5); have hF5:=hF3.out.below hb5; have d5:=hF5.cell 1; have hbl5:=Hj (hbl3.out.below hb5); clear hb5 d3; go_wp2_with fail
        refine (hW.out _ hbl5.out hB5.out.size).mono ?_
        rintro e w6 ⟨rfl,hbl6,hb6⟩
        have hB6:=Hj (hB5.out.trans hb6); replace hbl6:=Hj hbl6; go_wp2; go_roundw
        case rel => exact ⟨k + 1,by go_num,by omega,hok2,hbl6,hB6⟩
        case measure => simp only [intOf]; omega
       ·have hb9:=hbad.out (fun h => k4 h.2.2.1)
        have hV3:=hV.out; rw [k2,errV_zero] at hV3
        clear hV; have hV:=Hj hV3; clear hV3; have qs:=str_ne k4; replace hb9:=Hj hb9; replace k1:=Hj k1; replace k2:=Hj k2; replace k3:=Hj k3; replace k4:=Hj k4; replace hN:=Hj hN; clear hbad hokI; generalize str (nmV nm) = s1 at *; generalize str (vlV vl) = s3 at *; generalize str vl = s2 at *; go_wp2_with fail
        refine hN.out.mono ?_
        rintro e w3 ⟨rfl,hb3⟩
        have hB3:=Hj (Below.next hA1.out hA1.out.size hb3); have hF3:=hF1.out.below hb3; have d3:=hF3.cell 1; replace hF3:=Hj hF3; have hbl3:=Hj (hbl1.out.below hb3); clear hb3; go_wp2_with fail
        refine (hO.out _).mono ?_
        rintro e w4 ⟨rfl,rfl⟩
        go_wp2_with fail
        refine (hV.out _).mono ?_
        rintro e w5 ⟨rfl,hb5⟩
        have hB5:=Hj (Below.next hB3.out hB3.out.size hb5); have hF5:=hF3.out.below hb5; have d5:=hF5.cell 1; have hbl5:=Hj (hbl3.out.below hb5); clear hb5 d3; go_wp2; go_ret2
        exact LastR.bad hb9.out hB5.out
      ·have hb9:=hbad.out (fun h => k2 h.2.1)
       have hV3:=hV.out; rw [errV_ne k2] at hV3
       clear hV; have hV:=Hj hV3; clear hV3; replace hb9:=Hj hb9; replace k1:=Hj k1; replace k2:=Hj k2; replace k3:=Hj k3; replace hN:=Hj hN; clear hbad hokI; generalize vlE vl = n2 at *; generalize str (nmV nm) = s1 at *; generalize str (vlV vl) = s3 at *; generalize str vl = s2 at *; go_wp2_with fail
       refine hN.out.mono ?_
       rintro e w3 ⟨rfl,hb3⟩
       have hB3:=Hj (Below.next hA1.out hA1.out.size hb3); have hF3:=hF1.out.below hb3; have d3:=hF3.cell 1; replace hF3:=Hj hF3; have hbl3:=Hj (hbl1.out.below hb3); clear hb3; go_wp2_with fail
       refine (hO.out _).mono ?_
       rintro e w4 ⟨rfl,rfl⟩
       go_wp2_with fail
       refine (hV.out _).mono ?_
       rintro e w5 ⟨rfl,hb5⟩
       have hB5:=Hj (Below.next hB3.out hB3.out.size hb5); have hF5:=hF3.out.below hb5; have d5:=hF5.cell 1; have hbl5:=Hj (hbl3.out.below hb5); clear hb5 d3; go_wp2; go_ret2
       exact LastR.bad hb9.out hB5.out
    ·have hb9:=hbad.out (fun h => k1 h.1)
     rw [errV_ne k1] at hN
     replace hb9:=Hj hb9; replace k1:=Hj k1; replace hN:=Hj hN; clear hbad hokI; generalize nmE nm = n1 at *; generalize str (nmV nm) = s1 at *; go_wp2_with fail
     refine hN.out.mono ?_
     rintro e w3 ⟨rfl,hb3⟩
     have hB3:=Hj (Below.next hA1.out hA1.out.size hb3); clear hb3; go_wp2; go_ret2
     exact LastR.bad hb9.out hB3.out
   ·obtain rfl : k = l.length:=by omega
    rw [List.take_length] at hok hbl
    have hlx:=txt_len l hok.out; have hW:=bwrite_any (s:=[13,10]) hbl.out (by simp; omega) hBs
    obtain ⟨T,hT⟩ : ∃ T,txt l ++ [13,10] = T:=⟨_,rfl⟩
    have hTl : T.length = (txt l).length + 2:=by rw [← hT]; simp
    have hfit : fitL l = decide (T.length ≤ 8192):=by unfold fitL; rw [hTl,decide_eq_true (p:=l.length ≤ 64) (by omega),Bool.and_true]
    have hlast : lastB l = [48,13,10] ++ T:=by unfold lastB; rw [hT]
    rw [hT] at hW
    rw [show str [13,10] = (⟨#[13,10]⟩ : ByteArray) from rfl] at hW
    replace hW:=Hj hW; replace hT:=Hj hT; have hTb : T.length ≤ 200000:=by omega
    replace hTl:=Hj hTl; replace hlast:=Hj hlast; go_wp2_with fail
    refine hW.out.mono ?_
    rintro e w3 ⟨rfl,hbl3,hb3⟩
    have hL:=Hj (blen_any hbl3); have hB3:=Hj (hB.out.trans hb3); by_cases hf : T.length ≤ 8192
    ·have hres : Hid ((okL l && fitL l) = true):=Hj (by rw [hok.out,hfit,decide_eq_true hf]; rfl)
     have hS:=Hj (bstring_any hbl3 hB3.out.size); replace hbl3:=Hj hbl3; replace hfit:=Hj hfit; have kc:=fun (w : World) (s : ByteArray) => Lib.run_convert_string_bytes (P:=Tryz.prog) w 9 23 5 s Tryz.underlying9 Tryz.underlying23 Tryz.underlying5
     have z1 : (str T).size ≤ 8192:=by rw [str_size]; exact hf
     have hcv:=fun w => OwnM.conv w ([48,13,10] ++ T)
     have hcb:=fun w => conv_below w ([48,13,10] ++ T)
     have e3 : str ([48,13,10] ++ T) = (⟨#[48,13,10]⟩ : ByteArray) ++ str T:=by rw [← str_append]; rfl
     rw [e3] at hcv hcb
     have e4 : ([48,13,10] ++ T).length = 3 + (str T).size:=by simp [str_size]; omega
     rw [e4] at hcv
     replace hcv:=Hj hcv; replace hcb:=Hj hcb; replace e3:=Hj e3; replace e4:=Hj e4; generalize str T = sT at *; go_wp2_with fail
     refine hL.out.mono ?_
     rintro e w4 ⟨rfl,rfl⟩
     go_wp2_with fail
     refine hS.out.mono ?_
     rintro e w5 ⟨rfl,hb5⟩
     have hB5:=Hj (hB3.out.trans hb5); go_wp2; go_ret2
     exact LastR.good hres.out (by rw [hlast.out]; exact (hcv.out w5).base hB5.out.size) (Below.next hB5.out hB5.out.size (hcb.out w5))
    ·have hres : Hid ((okL l && fitL l) = false):=Hj (by rw [hok.out,hfit,decide_eq_false hf]; rfl)
     replace hbl3:=Hj hbl3; replace hfit:=Hj hfit; go_wp2_with fail
     refine hL.out.mono ?_
     rintro e w4 ⟨rfl,rfl⟩
     go_wp2; go_ret2
     exact LastR.bad hres.out hB3.out
end Go.Proofs.YtjffffpfejmoiaaGreatDoor
namespace Go.Proofs.YtjffffpfejmoiaaGreatDoor
open Go.RowKit Syn Ck
namespace Ck
def chks (ps : List (List UInt8)) : List UInt8:=ps.flatMap chk
def encE (ps : List (List UInt8)) (l : List (List UInt8 × List UInt8)) : Int:=if 65536 < ps.flatten.length then 5 else if (okL l && fitL l) = true then 0 else 34
def encB (ps : List (List UInt8)) (l : List (List UInt8 × List UInt8)) : List UInt8:=if encE ps l = 0 then chks ps ++ lastB l else []
theorem chks_take {ps : List (List UInt8)} {k : Nat} (h : k < ps.length) : chks (ps.take (k + 1)) = chks (ps.take k) ++ chk ps[k]:=by
 unfold chks; rw [List.take_succ_eq_append_getElem h,List.flatMap_append]; simp
theorem chk_le (b : List UInt8) (h : b.length ≤ 1000000) : (chk b).length ≤ b.length + 20:=by
 unfold chk
 split
 ·simp
 ·have:=hexs_len 15 b.length (by omega)
  simp only [List.length_append,List.length_cons,List.length_nil]
  omega
theorem chks_le : ∀ (ps : List (List UInt8)),(∀ p ∈ ps,p.length ≤ 1000000) → (chks ps).length ≤ ps.flatten.length + ps.length * 20
 | [],_ => by simp [chks]
 | p :: r,h => by
  have h1:=chk_le p (h p (by simp)); have h2:=chks_le r (fun q hq => h q (by simp [hq])); have e : chks (p :: r) = chk p ++ chks r:=rfl
  rw [e,List.length_append,List.flatten_cons,List.length_append,List.length_cons,Nat.add_mul]
  omega
theorem flat_at (ps : List (List UInt8)) {k : Nat} (h : k < ps.length) : (ps.take k).flatten.length + ps[k].length ≤ ps.flatten.length:=by
 have:=flat_take_le ps (k + 1)
 rw [flat_take h,List.length_append] at this
 exact this
theorem lastB_le {l : List (List UInt8 × List UInt8)} (h : (okL l && fitL l) = true) : (lastB l).length ≤ 9000:=by
 unfold fitL at h
 simp only [Bool.and_eq_true,decide_eq_true_eq] at h
 unfold lastB
 simp only [List.length_append,List.length_cons,List.length_nil]
 omega
def EncR (w : World) (ps : List (List UInt8)) (l : List (List UInt8 × List UInt8)) (e : Ending) (w' : World) : Prop :=
 ∃ o,e = .returned (.tuple #[o,errV (encE ps l)]) ∧ Own w' w.heap.size 5 1 o (encB ps l).length (u8s (encB ps l)) ∧ Below w.heap.size w w'
theorem EncR.bad {w w' : World} {ps : List (List UInt8)} {l : List (List UInt8 × List UInt8)} {n : Int} (h : encE ps l = n) (h0 : n ≠ 0) (hb : Below w.heap.size w w') : EncR w ps l (.returned (.tuple #[.slice none 0 0,.iface 57 (.int .i64 n)])) w' :=
 ⟨.slice none 0 0,by rw [h,errV_ne h0],by unfold encB; rw [h,if_neg h0]; exact own_nil _ _ _ _,hb⟩
theorem EncR.good {w w' : World} {ps : List (List UInt8)} {l : List (List UInt8 × List UInt8)} {o : Value} (h : encE ps l = 0) (ho : Own w' w.heap.size 5 1 o (chks ps ++ lastB l).length (u8s (chks ps ++ lastB l))) (hb : Below w.heap.size w w') : EncR w ps l (.returned (.tuple #[o,.nilIface])) w' :=
 ⟨o,by rw [h]; rfl,by unfold encB; rw [if_pos h]; exact ho,hb⟩
end Ck
set_option maxRecDepth 100000 in
set_option maxHeartbeats 16000000 in
theorem encode_any (ps : List (List UInt8)) (l : List (List UInt8 × List UInt8)) (v vl : Value) (w : World) (hP : Parts w v ps) (hn : ps.length ≤ 1000) (hp : ∀ p ∈ ps,p.length ≤ 1000000)
  (hR : Rd w 2 vl l.length (prs l)) (hs : ∀ p ∈ l,p.1.length ≤ 100000 ∧ p.2.length ≤ 100000) (hm : l.length ≤ 140737488355328) (hT : w.cell? ⟨5,15,none⟩ = some (.int .u8 4)) :
  Calls Tryz.prog 34 #[v,vl] w (EncR w ps l):=by
 obtain ⟨A,cap,rfl,hcap,-⟩:=id hP; obtain ⟨Al,cl,rfl,hcl,-⟩:=id hR; have h5:=cell_lt hT; replace hP:=Hj hP; replace hR:=Hj hR; replace hs:=Hj hs; replace hp:=Hj hp; replace hT:=Hj hT; go_enter Tryz.func34,Tryz.ntmps34
 go_wp2; go_loopw [6,7,14] (fun o n i wr => ∃ k : Nat,i = .int .i64 (k : Int) ∧ k ≤ ps.length ∧ n = .int .i64 ((ps.take k).flatten.length : Int) ∧ (ps.take k).flatten.length ≤ 65536 ∧ Hid (Own wr w.heap.size 5 1 o (chks (ps.take k)).length (u8s (chks (ps.take k)))) ∧ Hid (Below w.heap.size w wr)) (fun _ _ i _ => ps.length - (intOf i).toNat)
 case atStart => exact ⟨0,rfl,by omega,rfl,by simp,Hj (own_nil _ _ _ _),Hj (Below.refl _ _)⟩
 case round =>
  obtain ⟨k,rfl,hk,rfl,h65,ho,hB⟩:=hrel
  have hBs:=hB.out.size; by_cases hlt : k < ps.length
  ·obtain ⟨A',c',e',-,r'⟩:=hP.out.below hB.out
   cases e'; obtain ⟨b,o,rfl,hbl,hx⟩:=r' (by omega)
   obtain ⟨Ai,ci,d1,hRk⟩:=hx k hlt
   have hpl:=hp.out ps[k] (List.getElem_mem hlt); have hfa:=flat_at ps hlt; have hft:=congrArg List.length (flat_take hlt); have hct:=chks_take hlt; have hcle:=chks_le (ps.take k) (fun p h => hp.out p (List.mem_of_mem_take h)); rw [List.length_take,Nat.min_eq_left hk] at hcle
   have hck:=chk_le ps[k] hpl; have hC:=chunk_any ps[k] Ai ci wr hRk (by omega) ((hB.out.cell h5).trans hT.out); rw [List.length_append] at hft
   obtain ⟨Ao,co,rfl,-⟩:=Rd.own ho.out
   generalize ps[k] = p at *; obtain ⟨nf,hnf⟩ : ∃ n,(ps.take k).flatten.length = n:=⟨_,rfl⟩
   rw [hnf] at hft hfa h65 hcle ⊢
   obtain ⟨cs,hcs⟩ : ∃ cs,chks (ps.take k) = cs:=⟨_,rfl⟩
   rw [hcs] at ho hct hcle ⊢
   replace hct:=Hj hct; replace hcs:=Hj hcs; replace hnf:=Hj hnf; have h1c:=Hj (u8s_one (chk p)); clear hx r'; replace hRk:=Hj hRk; replace hC:=Hj hC; by_cases hbig : 65536 < nf + p.length
   ·have he:=Hj (show encE ps l = 5 by unfold encE; rw [if_pos (by omega)])
    replace hft:=Hj hft; go_wp2; go_ret2
    exact EncR.bad he.out (by decide) hB.out
   ·replace hft:=Hj hft
    go_wp2_with fail
    refine hC.out.mono ?_
    rintro e w3 ⟨v3,rfl,ho3,hb3⟩
    obtain ⟨A3,c3,rfl,-⟩:=Rd.own ho3
    have hB3:=Hj (Below.next hB.out hBs hb3); have hB3s:=hB3.out.size; have ho2:=Hj (own_below ho.out hb3); have hR3:=Hj (Rd.own ho3); clear hb3 ho3; go_wp2_with (at_builtin; go_loud (refine step_pushR (v:=Value.slice Ao cs.length co) (n:=cs.length) (m:=(chk p).length) (xs:=u8s cs) (news:=u8s (chk p)) (c:=c3) (A:=A3) (B:=w.heap.size) 23 5 (.int .u8 0) 1 1 _ _ rfl rfl Tryz.underlying23 infoU8 rfl (by decide) (by decide) rfl ho2.out rfl hR3.out h1c.out (by omega) hB3s ?_); intro v5 w5 ho5 hg5 hat5; have hB5:=Hj (hB3.out.trans (below_grown ho2.out hg5 hB3s)); replace ho5:=Hj ho5; clear hg5 hat5)
    go_roundw
    case rel => exact ⟨k + 1,by go_num,by omega,by rw [hft.out]; go_num,by rw [hft.out]; omega,Hj (by rw [hct.out,List.length_append,u8s_app]; exact ho5.out),hB5⟩
    case measure => simp only [intOf]; omega
  ·obtain rfl : k = ps.length:=by omega
   rw [List.take_length] at ho h65 ⊢
   have hcle:=chks_le ps (fun p h => hp.out p h); obtain ⟨Ao,co,rfl,-⟩:=Rd.own ho.out
   obtain ⟨cs,hcs⟩ : ∃ cs,chks ps = cs:=⟨_,rfl⟩
   obtain ⟨nf,hnf⟩ : ∃ n,ps.flatten.length = n:=⟨_,rfl⟩
   have hE : encE ps l = if (okL l && fitL l) = true then 0 else 34:=by unfold encE; rw [if_neg (by omega)]
   rw [hcs] at ho hcle ⊢
   rw [hnf] at h65 hcle ⊢
   have hL:=last_any l (.slice Al l.length cl) wr (hR.out.below hB.out) hs.out hm; unfold LastR at hL
   have hll:=fun h => lastB_le (l:=l) h
   replace hcs:=Hj hcs; replace hnf:=Hj hnf; obtain ⟨r,hr⟩ : ∃ r,(okL l && fitL l) = r:=⟨_,rfl⟩
   rw [hr] at hL hE hll
   cases r with
   | true =>
    have hll2:=hll rfl; simp only [if_true] at hL hE
    rw [errV_zero] at hL
    replace hE:=Hj hE; replace hL:=Hj hL; replace hr:=Hj hr; clear hll; have h1c:=Hj (u8s_one (lastB l)); generalize hLb : lastB l = lb at *; replace hLb:=Hj hLb; go_wp2_with fail
    refine hL.out.mono ?_
    rintro e w3 ⟨v3,rfl,ho3,hb3⟩
    obtain ⟨A3,c3,rfl,-⟩:=id ho3.rd; have hB3:=Hj (Below.next hB.out hBs hb3); have hB3s:=hB3.out.size; have ho2:=Hj (own_below ho.out hb3); have hR3:=Hj ho3.rd; clear hb3 ho3; go_wp2_with (at_builtin; go_loud (refine step_pushR (v:=Value.slice Ao cs.length co) (n:=cs.length) (m:=lb.length) (xs:=u8s cs) (news:=u8s lb) (c:=c3) (A:=A3) (B:=w.heap.size) 23 5 (.int .u8 0) 1 1 _ _ rfl rfl Tryz.underlying23 infoU8 rfl (by decide) (by decide) rfl ho2.out rfl hR3.out h1c.out (by omega) hB3s ?_); intro v5 w5 ho5 hg5 hat5; have hB5:=Hj (hB3.out.trans (below_grown ho2.out hg5 hB3s)); replace ho5:=Hj ho5; clear hg5 hat5)
    go_ret2
    exact EncR.good hE.out (by rw [hcs.out,hLb.out,List.length_append,u8s_app]; exact ho5.out) hB5.out
   | false =>
    simp only [Bool.false_eq_true,if_false] at hL hE
    rw [errV_ne (by decide)] at hL
    replace hE:=Hj hE; replace hL:=Hj hL; replace hr:=Hj hr; clear hll; go_wp2_with fail
    refine hL.out.mono ?_
    rintro e w3 ⟨v3,rfl,ho3,hb3⟩
    have hB3:=Hj (Below.next hB.out hBs hb3); clear hb3 ho3; go_wp2; go_ret2
    exact EncR.bad hE.out (by decide) hB3.out
end Go.Proofs.YtjffffpfejmoiaaGreatDoor
namespace Go.Proofs.YtjffffpfejmoiaaGreatDoor
open Go.RowKit Syn
namespace Ck
def tls (T n : Nat) (x : List UInt8) (fs : List (List UInt8 × List UInt8)) : St:=⟨6,1,0,1,T,0,n,x,fs,0⟩
theorem wr_last0 {T : Nat} (hT : T ≤ 65536) : wr (fresh T 0) [48,13,10] = (tls T 0 [] [],[],3):=by
 have e1 : step (fresh T 0) 48 = ⟨0,1,0,1,T,0,0,[],[],0⟩:=by
  have hx : hexv 48 = some 0:=rfl
  unfold step sized fresh
  simp only [hx]
  rw [if_pos (by decide),if_neg (by decide),if_neg (by decide),if_neg (by decide),if_neg (by decide),if_neg (by decide),if_neg (by omega)]
 have h1 : wr (fresh T 0) [48] = (⟨0,1,0,1,T,0,0,[],[],0⟩,[],1):=by
  rw [wr_single (by simp [fresh]) (by rw [e1]),e1,if_neg (by simp [fresh])]
 rw [show ([48,13,10] : List UInt8) = [48] ++ [13,10] from rfl,wr_append,h1]
 simp only
 rw [wr_two (s1:=⟨2,1,0,1,T,0,0,[],[],0⟩) (s2:=tls T 0 [] []) (by simp) (by simp) ?_ (by simp) (by simp) ?_ rfl]
 ·rfl
 ·unfold step sized; rfl
 ·unfold step tls; rfl
theorem wr_text {T : Nat} {fs : List (List UInt8 × List UInt8)} : ∀ (y x : List UInt8) (n : Nat),n + y.length ≤ 8192 → (∀ c ∈ y,c.toNat ≠ 0 ∧ c.toNat ≠ 10 ∧ c.toNat ≠ 13) → wr (tls T n x fs) y = (tls T (n + y.length) (x ++ y) fs,[],y.length)
 | [],x,n,_,_ => by rw [wr_nil,List.append_nil]; rfl
 | c :: r,x,n,hn,hc => by
  rw [List.length_cons] at hn
  obtain ⟨c0,c10,c13⟩:=hc c (by simp)
  have e1 : step (tls T n x fs) c = tls T (n + 1) (x ++ [c]) fs:=by
   unfold step ended tls
   simp only
   rw [if_neg (by decide),if_neg (by decide),if_neg (by decide),if_neg (by decide),if_neg (by decide)]
   rw [if_neg,if_neg c13,if_pos c10]
   rintro (h | h | h)
   ·omega
   ·exact c0 h
   ·rw [decide_eq_false c10] at h; simp at h
  rw [wr_go (by simp [tls]) (by rw [e1]; simp [tls]),e1,wr_text r (x ++ [c]) (n + 1) (by omega) (fun d hd => hc d (by simp [hd]))]
  rw [if_neg (by simp [tls])]
  simp only [List.length_cons,List.append_assoc,List.cons_append,List.nil_append]
  rw [show n + 1 + r.length = n + (r.length + 1) by omega]
theorem wr_line {T : Nat} {fs : List (List UInt8 × List UInt8)} {y : List UInt8} {n : Nat} {f : List UInt8 × List UInt8} (hn : n + y.length + 2 ≤ 8192) (hc : ∀ c ∈ y,c.toNat ≠ 0 ∧ c.toNat ≠ 10 ∧ c.toNat ≠ 13) (hy : y ≠ []) (hf : fline y = some f) (h64 : fs.length < 64) :
  wr (tls T n [] fs) (y ++ [13,10]) = (tls T (n + (y.length + 2)) [] (fs ++ [f]),[],y.length + 2):=by
 rw [wr_append,wr_text y [] n (by omega) hc]
 simp only [List.nil_append]
 rw [wr_two (s1:=⟨7,1,0,1,T,0,n + y.length + 1,y,fs,0⟩) (s2:=tls T (n + (y.length + 2)) [] (fs ++ [f])) (by simp [tls]) (by simp [tls]) ?_ (by simp) (by simp) ?_ rfl]
 ·unfold step ended tls
  simp only
  rw [if_neg (by decide),if_neg (by decide),if_neg (by decide),if_neg (by decide),if_neg (by decide)]
  rw [if_neg,if_pos (by decide)]
  rintro (h | h | h)
  ·omega
  ·exact absurd h (by decide)
  ·simp at h
 ·unfold step ended tls
  simp only
  rw [if_neg (by decide),if_neg (by decide),if_neg (by decide),if_neg (by decide),if_neg (by decide)]
  rw [if_neg,if_neg (by decide),if_neg (by decide),if_neg hy,hf]
  ·simp only
   rw [if_neg (by omega)]
   congr 1
  ·rintro (h | h | h)
   ·omega
   ·exact absurd h (by decide)
   ·exact absurd h (by decide)
theorem wr_fin {T : Nat} {fs : List (List UInt8 × List UInt8)} {n : Nat} (hn : n + 2 ≤ 8192) : wr (tls T n [] fs) [13,10] = (⟨8,1,0,1,T,0,n + 2,[],fs,0⟩,[],2):=by
 refine wr_two (s1:=⟨7,1,0,1,T,0,n + 1,[],fs,0⟩) (by simp [tls]) (by simp [tls]) ?_ (by simp) (by simp) ?_ rfl
 ·unfold step ended tls
  simp only
  rw [if_neg (by decide),if_neg (by decide),if_neg (by decide),if_neg (by decide),if_neg (by decide)]
  rw [if_neg,if_pos (by decide)]
  rintro (h | h | h)
  ·omega
  ·exact absurd h (by decide)
  ·simp at h
 ·unfold step ended
  simp only
  rw [if_neg (by decide),if_neg (by decide),if_neg (by decide),if_neg (by decide),if_neg (by decide)]
  rw [if_neg,if_neg (by decide),if_neg (by decide),if_pos trivial]
  rintro (h | h | h)
  ·omega
  ·exact absurd h (by decide)
  ·simp at h
def flT (p : List UInt8 × List UInt8) : List UInt8:=nmV p.1 ++ 58 :: 32 :: p.2
theorem fl_eq (p : List UInt8 × List UInt8) : fl p = flT p ++ [13,10]:=by unfold fl flT; simp
theorem fline_fl {p : List UInt8 × List UInt8} (h : okF p = true) : fline (flT p) = some (nmV p.1,p.2):=by
 obtain ⟨h1,h2,h3,h4⟩:=okF_of h
 obtain ⟨t1,t2⟩:=take58 (nmV p.1) (32 :: p.2) (tok58 (nmE_tok (nmE_lower h1).1).1)
 unfold fline flT
 rw [t1,t2]
 simp only
 rw [if_pos ⟨(nmE_lower h1).1,(vlE_sp h2).1,by rw [(nmE_lower h1).2]; exact h4⟩,(nmE_lower h1).2,(vlE_sp h2).2,h3]
theorem fl_bytes {p : List UInt8 × List UInt8} (h : okF p = true) : ∀ c ∈ flT p,c.toNat ≠ 0 ∧ c.toNat ≠ 10 ∧ c.toNat ≠ 13:=by
 obtain ⟨h1,h2,h3,h4⟩:=okF_of h
 intro c hc; unfold flT at hc
 rw [List.mem_append,List.mem_cons,List.mem_cons] at hc
 rcases hc with hc | rfl | rfl | hc
 ·exact cln_byte (tok_clean (nmE_tok (nmE_lower h1).1).1) c hc
 ·decide
 ·decide
 ·exact cln_byte (vlE_cln h2).1 c hc
theorem wr_txt {T : Nat} : ∀ (l fs : List (List UInt8 × List UInt8)) (n : Nat),okL l = true → n + (txt l).length ≤ 8192 → fs.length + l.length ≤ 64 →
  wr (tls T n [] fs) (txt l) = (tls T (n + (txt l).length) [] (fs ++ l.map fun p => (nmV p.1,p.2)),[],(txt l).length)
 | [],fs,n,_,_,_ => by rw [show txt [] = [] from rfl,wr_nil]; simp
 | p :: r,fs,n,h,hn,h64 => by
  unfold okL at h
  rw [List.all_cons,Bool.and_eq_true] at h
  have e : txt (p :: r) = fl p ++ txt r:=rfl
  rw [e,List.length_append,fl_eq,List.length_append] at hn
  have hl2 : ([13,10] : List UInt8).length = 2:=rfl
  rw [hl2] at hn
  rw [List.length_cons] at h64
  rw [e,fl_eq,wr_append,wr_line (n:=n) (by omega) (fl_bytes h.1) (by unfold flT; simp) (fline_fl h.1) (by omega)]
  simp only
  rw [wr_txt r (fs ++ [(nmV p.1,p.2)]) _ h.2 (by omega) (by rw [List.length_append,List.length_singleton]; omega)]
  simp only [List.length_append,List.length_cons,List.map_cons,List.append_assoc,List.cons_append,List.nil_append]
  rw [show n + ((flT p).length + 2) + (txt r).length = n + ((flT p).length + ((txt r).length + 1 + 1)) by omega,show (flT p).length + 2 + (txt r).length = (flT p).length + ((txt r).length + 1 + 1) by omega]
end Ck
end Go.Proofs.YtjffffpfejmoiaaGreatDoor
