import Derived.Test.YtjffffpfejmoiaaGreatDoorGByt
import Derived.Test.YtjffffpfejmoiaaGreatDoorShelfIto
import Derived.Lib.ItoaMem
import Derived.Lib.AppendIntMem
import Derived.Deep.RegionWith
namespace Go.Proofs.YtjffffpfejmoiaaGreatDoor
open Go.RowKit Syn
namespace Hd
def phrG : List (Nat × List UInt8) :=
 [(100,[67,111,110,116,105,110,117,101]),(101,[83,119,105,116,99,104,105,110,103,32,80,114,111,116,111,99,111,108,115]),(200,[79,75]),(201,[67,114,101,97,116,101,100]),(202,[65,99,99,101,112,116,101,100]),(203,[78,111,110,45,65,117,116,104,111,114,105,116,97,116,105,118,101,32,73,110,102,111,114,109,97,116,105,111,110]),(204,[78,111,32,67,111,110,116,101,110,116]),(206,[80,97,114,116,105,97,108,32,67,111,110,116,101,110,116]),(300,[77,117,108,116,105,112,108,101,32,67,104,111,105,99,101,115]),(301,[77,111,118,101,100,32,80,101,114,109,97,110,101,110,116,108,121]),(302,[70,111,117,110,100]),(303,[83,101,101,32,79,116,104,101,114]),(304,[78,111,116,32,77,111,100,105,102,105,101,100]),(307,[84,101,109,112,111,114,97,114,121,32,82,101,100,105,114,101,99,116]),(308,[80,101,114,109,97,110,101,110,116,32,82,101,100,105,114,101,99,116])]
def phrR : List (Nat × List UInt8) :=
 [(400,[66,97,100,32,82,101,113,117,101,115,116]),(401,[85,110,97,117,116,104,111,114,105,122,101,100]),(403,[70,111,114,98,105,100,100,101,110]),(404,[78,111,116,32,70,111,117,110,100]),(405,[77,101,116,104,111,100,32,78,111,116,32,65,108,108,111,119,101,100]),(408,[82,101,113,117,101,115,116,32,84,105,109,101,111,117,116]),(410,[71,111,110,101]),(411,[76,101,110,103,116,104,32,82,101,113,117,105,114,101,100]),(412,[80,114,101,99,111,110,100,105,116,105,111,110,32,70,97,105,108,101,100]),(413,[67,111,110,116,101,110,116,32,84,111,111,32,76,97,114,103,101]),(414,[85,82,73,32,84,111,111,32,76,111,110,103]),(416,[82,97,110,103,101,32,78,111,116,32,83,97,116,105,115,102,105,97,98,108,101]),(429,[84,111,111,32,77,97,110,121,32,82,101,113,117,101,115,116,115]),(431,[82,101,113,117,101,115,116,32,72,101,97,100,101,114,32,70,105,101,108,100,115,32,84,111,111,32,76,97,114,103,101])]
def phrF : List (Nat × List UInt8) :=
 [(500,[73,110,116,101,114,110,97,108,32,83,101,114,118,101,114,32,69,114,114,111,114]),(501,[78,111,116,32,73,109,112,108,101,109,101,110,116,101,100]),(502,[66,97,100,32,71,97,116,101,119,97,121]),(503,[83,101,114,118,105,99,101,32,85,110,97,118,97,105,108,97,98,108,101]),(504,[71,97,116,101,119,97,121,32,84,105,109,101,111,117,116])]
def lk (l : List (Nat × List UInt8)) (s : Int) : List UInt8:=match l.find? (fun p => decide ((p.1 : Int) = s)) with
 | some p => p.2
 | none => []
def phr : List (Nat × List UInt8):=phrG ++ (phrR ++ phrF)
def rsn (s : Int) : List UInt8:=lk phr s
end Hd
open Hd
end Go.Proofs.YtjffffpfejmoiaaGreatDoor
namespace Go.Proofs.YtjffffpfejmoiaaGreatDoor
open Go.RowKit Syn Hd
namespace Hd
def dg3 (n : Nat) : List UInt8:=[UInt8.ofNat (48 + n / 100),UInt8.ofNat (48 + n / 10 % 10),UInt8.ofNat (48 + n % 10)]
end Hd
open Hd
namespace Hd
end Hd
end Go.Proofs.YtjffffpfejmoiaaGreatDoor
namespace Go.Proofs.YtjffffpfejmoiaaGreatDoor
open Go.RowKit Syn Hd Ck
namespace Hd
def okC (p : List UInt8 × List UInt8) : Bool:=decide (nmE p.1 = 0) && (decide (vlE p.2 = 0) && decide (vlV p.2 = p.2))
def okCs (l : List (List UInt8 × List UInt8)) : Bool:=l.all okC
def can (l : List (List UInt8 × List UInt8)) : List (List UInt8 × List UInt8):=l.map fun p => (nmV p.1,p.2)
def ln (p : List UInt8 × List UInt8) : List UInt8:=p.1 ++ [58,32] ++ p.2 ++ [13,10]
def lns (l : List (List UInt8 × List UInt8)) : List UInt8:=l.flatMap ln
def largeB (start : Nat) (l : List (List UInt8 × List UInt8)) : Bool:=decide (64 < l.length) || decide (8192 < start + 2 + ((lns l).length + 2))
def headB (start : List UInt8) (l : List (List UInt8 × List UInt8)) : List UInt8:=start ++ [13,10] ++ lns l ++ [13,10]
theorem okC_iff (n v : List UInt8) : okC (n,v) = true ↔ nmE n = 0 ∧ vlE v = 0 ∧ vlV v = v:=by
 unfold okC; simp [Bool.and_eq_true]
theorem okCs_take {l : List (List UInt8 × List UInt8)} {k : Nat} (h : k < l.length) : okCs (l.take (k + 1)) = (okCs (l.take k) && okC l[k]):=by
 unfold okCs; rw [List.take_succ_eq_append_getElem h,List.all_append]; simp
theorem okCs_no {l : List (List UInt8 × List UInt8)} {k : Nat} (h : k < l.length) (h2 : okC l[k] = false) : okCs l = false:=by
 unfold okCs
 rw [List.all_eq_false]
 exact ⟨l[k],List.getElem_mem h,by rw [h2]; simp⟩
theorem lns_take {l : List (List UInt8 × List UInt8)} {k : Nat} (h : k < l.length) : lns (l.take (k + 1)) = lns (l.take k) ++ ln l[k]:=by
 unfold lns; rw [List.take_succ_eq_append_getElem h,List.flatMap_append]; simp
theorem can_take {l : List (List UInt8 × List UInt8)} {k : Nat} (h : k < l.length) : can (l.take (k + 1)) = can (l.take k) ++ [(nmV l[k].1,l[k].2)]:=by
 unfold can; rw [List.take_succ_eq_append_getElem h,List.map_append]; rfl
theorem ln_len (p : List UInt8 × List UInt8) : (ln p).length = p.1.length + p.2.length + 4:=by
 unfold ln; simp only [List.length_append,List.length_cons,List.length_nil]; omega
theorem lns_len : ∀ (l : List (List UInt8 × List UInt8)) (M : Nat),(∀ p ∈ l,p.1.length ≤ M ∧ p.2.length ≤ M) → (lns l).length ≤ l.length * (2 * M + 4)
 | [],_,_ => by simp [lns]
 | p :: r,M,h => by
  have h1:=ln_len p; have h3:=h p (by simp); have h2:=lns_len r M (fun q hq => h q (by simp [hq])); have e : lns (p :: r) = ln p ++ lns r:=rfl
  rw [e,List.length_append,List.length_cons,Nat.add_mul]
  omega
theorem lns_le (l : List (List UInt8 × List UInt8)) (k : Nat) : (lns (l.take k)).length ≤ (lns l).length:=by
 have e : lns l = lns (l.take k) ++ lns (l.drop k):=by unfold lns; rw [← List.flatMap_append,List.take_append_drop]
 rw [e,List.length_append]; omega
end Hd
set_option maxRecDepth 100000 in
set_option maxHeartbeats 4000000 in
theorem hsize_any (l : List (List UInt8 × List UInt8)) (v : Value) (w : World) (hR : Rd w 2 v l.length (prs l)) (hs : ∀ p ∈ l,p.1.length ≤ 1000000 ∧ p.2.length ≤ 1000000) (hm : l.length ≤ 1000) :
  Calls Tryz.prog 45 #[v] w fun e w' => e = .returned (.int .i64 (((lns l).length + 2 : Nat) : Int)) ∧ Below w.heap.size w w':=by
 obtain ⟨A,cap,rfl,hcap,-,-⟩:=id hR; have hlen:=lns_len l 1000000 hs; have hll:=Hj (fun k => lns_le l k); replace hR:=Hj hR; replace hs:=Hj hs; go_enter Tryz.func45,Tryz.ntmps45
 go_wp2; go_loopw [3,8] (fun t i wr => ∃ k m : Nat,i = .int .i64 (k : Int) ∧ k ≤ l.length ∧ t = .int .i64 (m : Int) ∧ m ≤ 2000010000 ∧ Hid (m = (lns (l.take k)).length + 2) ∧ Hid (Below w.heap.size w wr)) (fun _ i _ => l.length - (intOf i).toNat)
 case atStart => exact ⟨0,2,rfl,by omega,rfl,by omega,Hj rfl,Hj (Below.refl _ _)⟩
 case round =>
  obtain ⟨k,m,rfl,hk,rfl,hm2,hmk,hB⟩:=hrel
  by_cases hlt : k < l.length
  ·obtain ⟨A',cap',e',-,-,r'⟩:=hR.out.below hB.out
   cases e'; obtain ⟨b1,o1,rfl,hb1,x1⟩:=r' (by omega)
   have d1 : wr.cell? ⟨b1,o1 + k * 2,none⟩ = some (.string (str l[k].1)):=x1 _ _ (prs_at0 hlt)
   have d2 : wr.cell? ⟨b1,o1 + k * 2 + 1,none⟩ = some (.string (str l[k].2)):=x1 _ _ (prs_at1 hlt)
   have hsz:=hs.out l[k] (List.getElem_mem hlt); have hln:=ln_len l[k]; have hlt2:=congrArg List.length (lns_take hlt); have hl2:=hll.out (k + 1); rw [List.length_append] at hlt2
   generalize l[k] = p at *; obtain ⟨nm,vl⟩:=p
   simp only at d1 d2 hsz hln
   have z1:=str_size nm; have z2:=str_size vl; have hA1:=Hj (hB.out.alloc hB.out.size (.cells #[.string (str nm),.string (str vl)] 26)); have hnew : m + (nm.length + vl.length + 4) = (lns (l.take (k + 1))).length + 2:=by have:=hmk.out; omega
   have hbd : m + (nm.length + vl.length + 4) ≤ 2000010000:=by omega
   replace hnew:=Hj hnew; replace hlt2:=Hj hlt2; replace hl2:=Hj hl2; replace hln:=Hj hln; clear x1 r'; go_wp2; go_roundw
   case rel => exact ⟨k + 1,m + (nm.length + vl.length + 4),by go_num,by omega,by go_num,hbd,hnew,hA1⟩
   case measure => simp only [intOf]; omega
  ·obtain rfl : k = l.length:=by omega
   have hmk2:=hmk.out; rw [List.take_length] at hmk2
   replace hmk2:=Hj hmk2; go_wp2; go_ret; exact ⟨by rw [← hmk2.out]; rfl,hB.out⟩
set_option maxRecDepth 100000 in
set_option maxHeartbeats 4000000 in
theorem hlarge_any (st : Nat) (l : List (List UInt8 × List UInt8)) (v : Value) (w : World) (hst : st ≤ 1000000) (hR : Rd w 2 v l.length (prs l)) (hs : ∀ p ∈ l,p.1.length ≤ 1000000 ∧ p.2.length ≤ 1000000) (hm : l.length ≤ 1000) :
  Calls Tryz.prog 23 #[.int .i64 (st : Int),v] w fun e w' => e = .returned (.bool (largeB st l)) ∧ Below w.heap.size w w':=by
 obtain ⟨A,cap,rfl,hcap,-,-⟩:=id hR; have hlen:=lns_len l 1000000 hs; have hS:=Hj (hsize_any l _ w hR hs hm); have hL : largeB st l = (decide (64 < l.length) || decide (8192 < st + 2 + ((lns l).length + 2))):=rfl
 replace hR:=Hj hR; replace hs:=Hj hs; by_cases h64 : 64 < l.length
 ·have hres:=Hj (show largeB st l = true by rw [hL,decide_eq_true h64]; rfl)
  clear hL; go_enter Tryz.func23,Tryz.ntmps23
  go_wp2; go_ret; exact ⟨by rw [hres.out]; rfl,Below.refl _ _⟩
 ·replace hL:=Hj hL
  go_enter Tryz.func23,Tryz.ntmps23
  go_wp2_with fail
  refine hS.out.mono ?_
  rintro e w1 ⟨rfl,hb1⟩
  replace hb1:=Hj hb1; go_wp2; go_ret; refine ⟨congrArg (fun b => Ending.returned (Value.bool b)) (show (decide ((64 : Int) < (l.length : Int)) || decide ((8192 : Int) < (st : Int) + 2 + (((lns l).length : Int) + 2))) = largeB st l from ?_),hb1.out⟩
  rw [hL.out]
  congr 1
  ·exact decide_eq_decide.2 (by omega)
  ·exact decide_eq_decide.2 (by omega)
end Go.Proofs.YtjffffpfejmoiaaGreatDoor
namespace Go.Proofs.YtjffffpfejmoiaaGreatDoor
open Go.RowKit Syn Hd Ck
theorem herr_ne {n : Int} (h : n ≠ 0) : errV n = .iface 57 (.int .i64 n):=by unfold errV; rw [if_neg h]
namespace Hd
def CanR (w : World) (l : List (List UInt8 × List UInt8)) (e : Ending) (w' : World) : Prop :=
 ∃ o,e = .returned (.tuple #[o,errV (if okCs l = true then 0 else 25)]) ∧ Own w' w.heap.size 26 2 o (if okCs l = true then can l else []).length (prs (if okCs l = true then can l else [])) ∧ Below w.heap.size w w'
theorem CanR.bad {w w' : World} {l : List (List UInt8 × List UInt8)} (h : okCs l = false) (hb : Below w.heap.size w w') : CanR w l (.returned (.tuple #[.slice none 0 0,.iface 57 (.int .i64 25)])) w' :=
 ⟨.slice none 0 0,by rw [h]; rfl,by rw [h]; exact own_nil _ _ _ _,hb⟩
theorem CanR.good {w w' : World} {l : List (List UInt8 × List UInt8)} {o : Value} (h : okCs l = true) (ho : Own w' w.heap.size 26 2 o (can l).length (prs (can l))) (hb : Below w.heap.size w w') : CanR w l (.returned (.tuple #[o,.nilIface])) w' :=
 ⟨o,by rw [h]; rfl,by rw [h]; exact ho,hb⟩
end Hd
set_option maxRecDepth 100000 in
set_option maxHeartbeats 16000000 in
theorem canonical_any (l : List (List UInt8 × List UInt8)) (v : Value) (w : World) (hR : Rd w 2 v l.length (prs l)) (hs : ∀ p ∈ l,p.1.length ≤ 1000000 ∧ p.2.length ≤ 1000000) (hm : l.length ≤ 1000) :
  Calls Tryz.prog 26 #[v] w (CanR w l):=by
 obtain ⟨A,cap,rfl,hcap,-,-⟩:=id hR; replace hR:=Hj hR; replace hs:=Hj hs; go_enter Tryz.func26,Tryz.ntmps26
 go_wp2; go_loopw [4,12] (fun o i wr => ∃ k : Nat,i = .int .i64 (k : Int) ∧ k ≤ l.length ∧ Hid (okCs (l.take k) = true) ∧ Hid (Own wr w.heap.size 26 2 o k (prs (can (l.take k)))) ∧ Hid (Below w.heap.size w wr)) (fun _ i _ => l.length - (intOf i).toNat)
 case atStart => exact ⟨0,rfl,by omega,Hj rfl,Hj (own_nil _ _ _ _),Hj (Below.refl _ _)⟩
 case round =>
  obtain ⟨k,rfl,hk,hok,ho,hB⟩:=hrel
  have hBs:=hB.out.size; obtain ⟨Ao,co,rfl,-⟩:=Rd.own ho.out
  by_cases hlt : k < l.length
  ·obtain ⟨A',cap',e',-,-,r'⟩:=hR.out.below hB.out
   cases e'; obtain ⟨b1,o1,rfl,hb1,x1⟩:=r' (by omega)
   have d1 : wr.cell? ⟨b1,o1 + k * 2,none⟩ = some (.string (str l[k].1)):=x1 _ _ (prs_at0 hlt)
   have d2 : wr.cell? ⟨b1,o1 + k * 2 + 1,none⟩ = some (.string (str l[k].2)):=x1 _ _ (prs_at1 hlt)
   have hsz:=hs.out l[k] (List.getElem_mem hlt); have hokT:=okCs_take hlt; have hokN:=okCs_no hlt; have hct:=can_take hlt; rw [hok.out,Bool.true_and] at hokT
   generalize l[k] = p at *; obtain ⟨nm,vl⟩:=p
   simp only at d1 d2 hsz hct
   clear x1 r'; have hokI:=okC_iff nm vl; have hN:=fname_any (str nm) (wr.alloc (.cells #[.string (str nm),.string (str vl)] 26)) (by rw [str_size]; omega)
   have hV:=fun w => fvalue_any (str vl) w (by rw [str_size]; omega)
   rw [bs_str] at hN
   simp only [bs_str] at hV
   have hA1:=hB.out.alloc hBs (.cells #[.string (str nm),.string (str vl)] 26); have hoA:=own_below ho.out ((Below.refl _ _).alloc (Nat.le_refl _) (.cells #[.string (str nm),.string (str vl)] 26)); have hF1:=Blk.new wr 26 #[.string (str nm),.string (str vl)]; replace hA1:=Hj hA1; replace hoA:=Hj hoA; replace hF1:=Hj hF1; replace hct:=Hj hct; replace hokT:=Hj hokT; have hbad : ¬ okC (nm,vl) = true → okCs l = false:=fun h => hokN (by simpa using h)
   rw [hokI] at hbad
   replace hbad:=Hj hbad; clear hokN; by_cases k1 : nmE nm = 0
   ·rw [k1,errV_zero] at hN
    by_cases k2 : vlE vl = 0
    ·have hV3:=hV
     simp only [k2,errV_zero] at hV3
     by_cases k4 : vlV vl = vl
     ·have hof : okC (nm,vl) = true:=hokI.2 ⟨k1,k2,k4⟩
      simp only [k4] at hV3
      clear hV; have hV:=Hj hV3; clear hV3; have hok2:=Hj (hokT.out.trans hof); have qs:=str_eq (a:=vl) (b:=vl) rfl; have hpr:=prs_snoc (can (l.take k)) (nmV nm,vl); simp only at hpr
      replace hof:=Hj hof; replace k1:=Hj k1; replace k2:=Hj k2; replace k4:=Hj k4; replace hN:=Hj hN; replace hpr:=Hj hpr; clear hbad hokI; generalize str (nmV nm) = s1 at *; generalize str vl = s2 at *; go_wp2_with fail
      refine hN.out.mono ?_
      rintro e w3 ⟨rfl,hb3⟩
      have hB3:=Hj (Below.next hA1.out hA1.out.size hb3); have hF3:=hF1.out.below hb3; have d3:=hF3.cell 1; replace hF3:=Hj hF3; have ho3:=Hj (own_below hoA.out hb3); clear hb3; go_wp2_with fail
      refine (hV.out _).mono ?_
      rintro e w5 ⟨rfl,hb5⟩
      have hB5:=Hj (Below.next hB3.out hB3.out.size hb5); have hF5:=hF3.out.below hb5; have d5:=hF5.cell 1; have ho5:=Hj (own_below ho3.out hb5); have hB5s:=hB5.out.size; clear hb5 d3; go_wp2_with (at_builtin; go_loud (refine push_pair 28 26 Tryz.underlying28 infoCF _ _ rfl rfl rfl ho5.out rfl rfl rfl (by omega) hB5s ?_); intro v7 w7 ho7 hb7; have hB7:=Hj (hB5.out.trans hb7); replace ho7:=Hj ho7; clear hb7)
      go_roundw
      case rel => exact ⟨k + 1,by go_num,by omega,hok2,Hj (by rw [hct.out,hpr.out]; exact ho7.out),hB7⟩
      case measure => simp only [intOf]; omega
     ·have hb9:=Hj (hbad.out (fun h => k4 h.2.2))
      clear hV; have hV:=Hj hV3; clear hV3; have qs:=str_ne k4; replace k1:=Hj k1; replace k2:=Hj k2; replace k4:=Hj k4; replace hN:=Hj hN; clear hbad hokI; generalize str (nmV nm) = s1 at *; generalize str (vlV vl) = s3 at *; generalize str vl = s2 at *; go_wp2_with fail
      refine hN.out.mono ?_
      rintro e w3 ⟨rfl,hb3⟩
      have hB3:=Hj (Below.next hA1.out hA1.out.size hb3); have hF3:=hF1.out.below hb3; have d3:=hF3.cell 1; replace hF3:=Hj hF3; clear hb3; go_wp2_with fail
      refine (hV.out _).mono ?_
      rintro e w5 ⟨rfl,hb5⟩
      have hB5:=Hj (Below.next hB3.out hB3.out.size hb5); have hF5:=hF3.out.below hb5; have d5:=hF5.cell 1; clear hb5 d3; go_wp2; go_ret2
      exact CanR.bad hb9.out hB5.out
    ·have hb9:=Hj (hbad.out (fun h => k2 h.2.1))
     have hV3:=hV; simp only [herr_ne k2] at hV3
     clear hV; have hV:=Hj hV3; clear hV3; replace k1:=Hj k1; replace k2:=Hj k2; replace hN:=Hj hN; clear hbad hokI; generalize vlE vl = n2 at *; generalize str (nmV nm) = s1 at *; generalize str (vlV vl) = s3 at *; generalize str vl = s2 at *; go_wp2_with fail
     refine hN.out.mono ?_
     rintro e w3 ⟨rfl,hb3⟩
     have hB3:=Hj (Below.next hA1.out hA1.out.size hb3); have hF3:=hF1.out.below hb3; have d3:=hF3.cell 1; replace hF3:=Hj hF3; clear hb3; go_wp2_with fail
     refine (hV.out _).mono ?_
     rintro e w5 ⟨rfl,hb5⟩
     have hB5:=Hj (Below.next hB3.out hB3.out.size hb5); clear hb5 d3; go_wp2; go_ret2
     exact CanR.bad hb9.out hB5.out
   ·have hb9:=Hj (hbad.out (fun h => k1 h.1))
    rw [herr_ne k1] at hN
    replace k1:=Hj k1; replace hN:=Hj hN; clear hbad hokI hV; generalize nmE nm = n1 at *; generalize str (nmV nm) = s1 at *; go_wp2_with fail
    refine hN.out.mono ?_
    rintro e w3 ⟨rfl,hb3⟩
    have hB3:=Hj (Below.next hA1.out hA1.out.size hb3); clear hb3; go_wp2; go_ret2
    exact CanR.bad hb9.out hB3.out
  ·obtain rfl : k = l.length:=by omega
   rw [List.take_length] at hok ho
   have hcl : (can l).length = l.length:=by unfold can; rw [List.length_map]
   replace hcl:=Hj hcl; go_wp2; go_ret2
   exact CanR.good hok.out (by rw [hcl.out]; exact ho.out) hB.out
end Go.Proofs.YtjffffpfejmoiaaGreatDoor
namespace Go.Proofs.YtjffffpfejmoiaaGreatDoor
open Go.RowKit Syn Hd Ck
set_option maxRecDepth 100000 in
set_option maxHeartbeats 8000000 in
theorem written_any (st : List UInt8) (l : List (List UInt8 × List UInt8)) (v : Value) (w : World) (hst : st.length ≤ 100000) (hR : Rd w 2 v l.length (prs l)) (hs : ∀ p ∈ l,p.1.length ≤ 1000000 ∧ p.2.length ≤ 1000000) (hm : l.length ≤ 1000) :
  Calls Tryz.prog 28 #[.string (str st),v] w fun e w' => ∃ o,e = .returned o ∧ OwnM w' w.heap.size o (headB st l) ∧ Below w.heap.size w w':=by
 obtain ⟨A,cap,rfl,hcap,-,-⟩:=id hR; have hlen:=lns_len l 1000000 hs; have hll:=Hj (fun k => lns_le l k); have kc1:=Lib.run_convert_string_bytes (P:=Tryz.prog) w 9 23 5 (str st ++ ⟨#[13,10]⟩) Tryz.underlying9 Tryz.underlying23 Tryz.underlying5; have e1 : str st ++ (⟨#[13,10]⟩ : ByteArray) = str (st ++ [13,10]):=by rw [← str_append]; rfl
 have hcv:=OwnM.conv w (st ++ [13,10]); have hcb:=conv_below w (st ++ [13,10]); have e2 : (str (st ++ [13,10])).size = st.length + 2:=by rw [str_size]; simp
 have e3 : (st ++ [13,10]).length = st.length + 2:=by simp
 have e4 : headB st l = (st ++ [13,10]) ++ lns l ++ [13,10]:=rfl
 have z0 : (str st).size = st.length:=str_size st
 rw [e1,e2] at kc1
 rw [e3] at hcv
 rw [← e1] at kc1
 obtain ⟨L0,hL0⟩ : ∃ L,st ++ [13,10] = L:=⟨_,rfl⟩
 rw [hL0] at hcv hcb e4 e3
 rw [e1,hL0] at kc1
 rw [hL0] at e1
 obtain ⟨w1,hw1⟩ : ∃ w1,Lib.bytesWorld w 5 (str L0) = w1:=⟨_,rfl⟩
 rw [hw1] at kc1 hcv hcb
 rw [← e1] at kc1
 obtain ⟨c0,hc0⟩ : ∃ c,grownCap w (st.length + 2) 0 5 = c:=⟨_,rfl⟩
 rw [hc0] at kc1 hcv
 have hRR:=Hj (fun w' (hb : Below w.heap.size w w') => hR.below hb); clear hR; replace hs:=Hj hs; replace hcv:=Hj hcv; replace hcb:=Hj hcb; replace e1:=Hj e1; replace e2:=Hj e2; have hl0 : L0.length ≤ 100002:=by omega
 replace e3:=Hj e3; replace e4:=Hj e4; replace hL0:=Hj hL0; replace hw1:=Hj hw1; replace hc0:=Hj hc0; generalize str st = sst at *; go_enter Tryz.func28,Tryz.ntmps28
 go_wp2; go_loopw [5,13] (fun o i wr => ∃ k : Nat,i = .int .i64 (k : Int) ∧ k ≤ l.length ∧ Hid (OwnM wr w.heap.size o (L0 ++ lns (l.take k))) ∧ Hid (Below w.heap.size w wr)) (fun _ i _ => l.length - (intOf i).toNat)
 case atStart => exact ⟨0,rfl,by omega,Hj (by rw [show lns (l.take 0) = [] from rfl,List.append_nil]; exact hcv.out),hcb⟩
 case round =>
  obtain ⟨k,rfl,hk,ho,hB⟩:=hrel
  have hBs:=hB.out.size; have hlk:=hll.out k; have hLk : (L0 ++ lns (l.take k)).length ≤ 3000000000:=by rw [List.length_append]; omega
  by_cases hlt : k < l.length
  ·obtain ⟨A',cap',e',-,-,r'⟩:=hRR.out wr hB.out
   cases e'; obtain ⟨b1,o1,rfl,hb1,x1⟩:=r' (by omega)
   have d1 : wr.cell? ⟨b1,o1 + k * 2,none⟩ = some (.string (str l[k].1)):=x1 _ _ (prs_at0 hlt)
   have d2 : wr.cell? ⟨b1,o1 + k * 2 + 1,none⟩ = some (.string (str l[k].2)):=x1 _ _ (prs_at1 hlt)
   have hsz:=hs.out l[k] (List.getElem_mem hlt); have hlt2:=lns_take hlt; have hln:=ln_len l[k]; generalize l[k] = p at *; obtain ⟨nm,vl⟩:=p
   simp only at d1 d2 hsz hln
   obtain ⟨Lk,hLk2⟩ : ∃ L,L0 ++ lns (l.take k) = L:=⟨_,rfl⟩
   rw [hLk2] at ho hLk
   have hnx : L0 ++ lns (l.take (k + 1)) = Lk ++ ln (nm,vl):=by rw [hlt2,← hLk2,List.append_assoc]
   have z1 : (str nm).size ≤ 1000000:=by rw [str_size]; exact hsz.1
   have z2 : (str vl).size ≤ 1000000:=by rw [str_size]; exact hsz.2
   have es : Hid (str nm ++ (⟨#[58,32]⟩ : ByteArray) ++ str vl ++ (⟨#[13,10]⟩ : ByteArray) = str (ln (nm,vl))):=Hj (by
    rw [show (⟨#[58,32]⟩ : ByteArray) = str [58,32] from rfl,show (⟨#[13,10]⟩ : ByteArray) = str [13,10] from rfl,str_append,str_append,str_append]
    rfl)
   have hoA:=ho.out.below ((Below.refl _ _).alloc (Nat.le_refl _) (.cells #[.string (str nm),.string (str vl)] 26)); have hA1:=hB.out.alloc hBs (.cells #[.string (str nm),.string (str vl)] 26); have hA1s:=hA1.size; obtain ⟨Ao,co,rfl,-⟩:=id ho.out.rd; replace hoA:=Hj hoA; replace hA1:=Hj hA1; replace hlt2:=Hj hlt2; replace hln:=hln; replace hnx:=Hj hnx; replace hLk2:=Hj hLk2; have hlnb : (ln (nm,vl)).length ≤ 2000004:=by omega
   replace hln:=Hj hln; clear x1 r'; generalize str nm = s1 at *; generalize str vl = s2 at *; go_wp2_with (at_builtin; go_loud (refine step_pushSM _ _ rfl rfl (ln (nm,vl)) hoA.out rfl rfl es.out (by omega) hA1s ?_); intro v7 w7 ho7 hb7; have hB7:=Hj (hA1.out.trans hb7); replace ho7:=Hj ho7; clear hb7)
   go_roundw
   case rel => exact ⟨k + 1,by go_num,by omega,Hj (by rw [hnx.out]; exact ho7.out),hB7⟩
   case measure => simp only [intOf]; omega
  ·obtain rfl : k = l.length:=by omega
   rw [List.take_length] at ho hLk
   obtain ⟨Lk,hLk2⟩ : ∃ L,L0 ++ lns l = L:=⟨_,rfl⟩
   rw [hLk2] at ho hLk
   obtain ⟨Ao,co,rfl,-⟩:=id ho.out.rd; have hfin : headB st l = Lk ++ [13,10]:=by rw [e4.out,← hLk2]
   replace hfin:=Hj hfin; replace hLk2:=Hj hLk2; go_wp2_with (at_builtin; go_loud (refine step_pushSM _ _ rfl rfl [13,10] ho.out rfl rfl rfl (by show _ + 2 ≤ _; omega) hBs ?_); intro v7 w7 ho7 hb7; have hB7:=Hj (hB.out.trans hb7); replace ho7:=Hj ho7; clear hb7)
   go_ret; exact ⟨_,rfl,by rw [hfin.out]; exact ho7.out,hB7.out⟩
end Go.Proofs.YtjffffpfejmoiaaGreatDoor
namespace Go.Proofs.YtjffffpfejmoiaaGreatDoor
open Go.RowKit Syn Hd Ck
namespace Hd
def nmR (x : List UInt8) : List UInt8:=if nmE x = 0 then nmV x else x
def lnR (p : List UInt8 × List UInt8) : List UInt8:=ln (nmR p.1,p.2)
def lnsR (l : List (List UInt8 × List UInt8)) : List UInt8:=l.flatMap lnR
theorem nmR_len (x : List UInt8) : (nmR x).length = x.length:=by
 unfold nmR
 split
 ·unfold nmV; rw [if_pos (by assumption),lower_length]
 ·rfl
theorem lnR_len (p : List UInt8 × List UInt8) : (lnR p).length = p.1.length + p.2.length + 4:=by
 unfold lnR; rw [ln_len,nmR_len]
theorem lnsR_len : ∀ l : List (List UInt8 × List UInt8),(lnsR l).length = (lns l).length
 | [] => rfl
 | p :: l => by
  have:=lnsR_len l
  unfold lnsR lns at this ⊢
  rw [List.flatMap_cons,List.flatMap_cons,List.length_append,List.length_append,this,lnR_len,ln_len]
end Hd
end Go.Proofs.YtjffffpfejmoiaaGreatDoor
namespace Go.Proofs.YtjffffpfejmoiaaGreatDoor
open Go.RowKit Syn Hd Ck
namespace Hd
def httpV : List UInt8:=[72,84,84,80,47,49,46,49,32]
def wrE (s : Int) (l : List (List UInt8 × List UInt8)) : Int:=if largeB (13 + (rsn s).length) l = true then 5 else if s < 100 ∨ 599 < s then 2 else if okCs l = true then 0 else 25
def startB (s : Int) : List UInt8:=httpV ++ dg3 s.toNat ++ [32] ++ rsn s
def wrB (s : Int) (l : List (List UInt8 × List UInt8)) : List UInt8:=if wrE s l = 0 then headB (startB s) (can l) else []
def WrR (w : World) (s : Int) (l : List (List UInt8 × List UInt8)) (e : Ending) (w' : World) : Prop :=
 ∃ o,e = .returned (.tuple #[o,errV (wrE s l)]) ∧ OwnM w' w.heap.size o (wrB s l) ∧ Below w.heap.size w w'
theorem WrR.bad {w w' : World} {s : Int} {l : List (List UInt8 × List UInt8)} {n : Int} (h : wrE s l = n) (h0 : n ≠ 0) (hb : Below w.heap.size w w') : WrR w s l (.returned (.tuple #[.slice none 0 0,.iface 57 (.int .i64 n)])) w' :=
 ⟨.slice none 0 0,by rw [h,herr_ne h0],by unfold wrB; rw [h,if_neg h0]; exact .inl ⟨rfl,rfl⟩,hb⟩
theorem WrR.good {w w' : World} {s : Int} {l : List (List UInt8 × List UInt8)} {o : Value} (h : wrE s l = 0) (ho : OwnM w' w.heap.size o (headB (startB s) (can l))) (hb : Below w.heap.size w w') : WrR w s l (.returned (.tuple #[o,.nilIface])) w' :=
 ⟨o,by rw [h]; rfl,by unfold wrB; rw [if_pos h]; exact ho,hb⟩
theorem CanR.no {w w' : World} {l : List (List UInt8 × List UInt8)} {e : Ending} (h : CanR w l e w') (c : ¬ okCs l = true) : ∃ o,e = .returned (.tuple #[o,.iface 57 (.int .i64 25)]) ∧ Below w.heap.size w w':=by
 obtain ⟨o,rfl,-,hb⟩:=h
 exact ⟨o,by rw [if_neg c]; rfl,hb⟩
theorem CanR.yes {w w' : World} {l : List (List UInt8 × List UInt8)} {e : Ending} (h : CanR w l e w') (c : okCs l = true) : ∃ o,e = .returned (.tuple #[o,.nilIface]) ∧ Own w' w.heap.size 26 2 o (can l).length (prs (can l)) ∧ Below w.heap.size w w':=by
 obtain ⟨o,rfl,ho,hb⟩:=h
 rw [if_pos c] at ho
 exact ⟨o,by rw [if_pos c]; rfl,ho,hb⟩
theorem nmV_le (x : List UInt8) : (nmV x).length ≤ x.length:=by
 unfold nmV
 split
 ·rw [lower_length]; exact Nat.le_refl _
 ·exact Nat.zero_le _
theorem can_size {l : List (List UInt8 × List UInt8)} {M : Nat} (h : ∀ p ∈ l,p.1.length ≤ M ∧ p.2.length ≤ M) : ∀ p ∈ can l,p.1.length ≤ M ∧ p.2.length ≤ M:=by
 intro p hp; obtain ⟨q,hq,rfl⟩:=List.mem_map.1 hp
 exact ⟨Nat.le_trans (nmV_le q.1) (h q hq).1,(h q hq).2⟩
end Hd
abbrev Tab10 (w : World) : Prop:=Lib.TabIs Tryz.prog w "internal/strconv.uint64pow10" .u64 Lib.pow10Tab
theorem Tab10.below {w w' : World} (h : Tab10 w) (hb : Below w.heap.size w w') : Tab10 w':=by
 unfold Tab10 Lib.TabIs at h ⊢
 unfold World.var? at h ⊢
 cases hg : Tryz.prog.globalNamed "internal/strconv.uint64pow10" with
 | none => simp [hg] at h
 | some g =>
  simp only [hg,Option.bind_some] at h ⊢
  have hlt : g < w.heap.size:=by
   rcases Nat.lt_or_ge g w.heap.size with h' | h'
   ·exact h'
   ·simp [Array.getElem?_eq_none h'] at h
  rw [hb.block g hlt]
  exact h
end Go.Proofs.YtjffffpfejmoiaaGreatDoor
namespace Go.Proofs.YtjffffpfejmoiaaGreatDoor
open Go.RowKit Syn
theorem own_far {w : World} {B sz n : Nat} {e : TypeId} {v : Value} {xs : List Value} (h : Own w B e sz v n xs) {p : Addr} (hp : p.block < B) (u : Value) : Own (w.setCell p u) B e sz v n xs:=by
 obtain ⟨hl,h⟩:=h
 refine ⟨hl,?_⟩
 rcases h with h | ⟨g,cap,cur,e1,h1,hg,h2⟩
 ·exact .inl h
 ·refine .inr ⟨g,cap,cur,e1,h1,?_,h2⟩
  rw [Below.heap_setCell w p u g (by omega)]; exact hg
theorem Blk.three {w : World} {g : Nat} {t : TypeId} {x y z : Value} (h : Blk w g t #[x,y,z]) (a b c : Value) : Blk (((w.setCell ⟨g,0,none⟩ a).setCell ⟨g,1,none⟩ b).setCell ⟨g,2,none⟩ c) g t #[a,b,c]:=((h.set_ 0 a).set_ 1 b).set_ 2 c
end Go.Proofs.YtjffffpfejmoiaaGreatDoor
