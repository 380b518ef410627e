import Derived.Test.YtibcbaghgpemfaaGreatDoorGLow
import Derived.Test.YtibcbaghgpemfaaGreatDoorGByt
import Derived.Deep.SlicePairs
import Derived.Deep.Strs
import Derived.SizedLaws
import Derived.ShutString
import Derived.ChangeOld
import Derived.Below
import Derived.Test.YtibcbaghgpemfaaGreatDoorDFolP
import Derived.Test.YtibcbaghgpemfaaGreatDoorGDm
import Derived.Test.YtibcbaghgpemfaaGreatDoorDProp
import Derived.Test.YtibcbaghgpemfaaGreatDoorDSame
import Derived.Test.YtibcbaghgpemfaaGreatDoorNClose
import Derived.Test.YtibcbaghgpemfaaGreatDoorNResp
import Derived.Test.YtibcbaghgpemfaaGreatDoorNNone
namespace Go.Proofs.YtibcbaghgpemfaaGreatDoor
open Go.RowKit Syn
theorem flat_le {M : Nat} : ∀ {l : List (List UInt8)},(∀ t ∈ l,t.length ≤ M) → l.flatten.length ≤ l.length * M
 | [],_ => Nat.zero_le _
 | t :: l,h => by
  have h1:=flat_le (l:=l) (fun x hx => h x (List.mem_cons_of_mem _ hx)); have h2:=h t List.mem_cons_self; rw [List.flatten_cons,List.length_append,List.length_cons,Nat.add_one_mul]
  omega
set_option maxRecDepth 100000 in
set_option maxHeartbeats 4000000 in
theorem fits8_any (parts : List (List UInt8)) (A : Option Addr) (cap : Nat) (w : World) (hR : Rd w 1 (.slice A parts.length cap) parts.length (strs parts)) (hl : ∀ t ∈ parts,t.length ≤ 140737488355328) (hn : parts.length ≤ 140737488355328) :
  Calls Tryz.prog 37 #[.slice A parts.length cap] w fun e w' => e = .returned (.bool (decide (parts.length ≤ 24 ∧ parts.flatten.length ≤ 9000))) ∧ w' = w:=by
 replace hR:=Hj hR; go_enter Tryz.func37,Tryz.ntmps37
 obtain ⟨S,hS⟩ : ∃ S : Nat → Nat,∀ k,S k = (parts.take k).flatten.length:=⟨_,fun _ => rfl⟩
 have hS0 : S 0 = 0:=by rw [hS]; rfl
 have hSn : S parts.length = parts.flatten.length:=by rw [hS,List.take_length]
 have hSb : ∀ k,k ≤ 24 → k ≤ parts.length → S k ≤ 3377699720527872:=fun k h1 h2 => by
  have h3:=flat_le (M:=140737488355328) (l:=parts.take k) (fun t ht => hl t (List.mem_of_mem_take ht)); rw [List.length_take,Nat.min_eq_left h2] at h3
  rw [hS]
  have h4 : k * 140737488355328 ≤ 24 * 140737488355328:=Nat.mul_le_mul_right _ h1
  exact Nat.le_trans h3 h4
 rw [← hSn]
 replace hSb:=Hj hSb; replace hS:=Hj hS; replace hSn:=Hj hSn; by_cases h24 : parts.length ≤ 24
 ·go_wp2
  go_loopw [3,4] (fun v i wr => ∃ k : Nat,i = .int .i64 (k : Int) ∧ k ≤ parts.length ∧ v = .int .i64 (S k : Int) ∧ wr = w) (fun _ i _ => parts.length - (intOf i).toNat)
  case atStart => exact ⟨0,rfl,Nat.zero_le _,by rw [hS0]; rfl,rfl⟩
  case round =>
   obtain ⟨k,rfl,hk,rfl,rfl⟩:=hrel
   by_cases hlt : k < parts.length
   ·obtain ⟨_,_,e',-,-,hb⟩:=id hR.out
    cases e'; obtain ⟨b,o,rfl,-,hx⟩:=hb (by omega)
    have d1:=hx k _ (strs_at hlt); have hs : (str parts[k]).size = parts[k].length:=str_size _
    have ht:=hl parts[k] (List.getElem_mem hlt); have hf : S (k + 1) = S k + parts[k].length:=by rw [hS.out,hS.out,List.take_succ_eq_append_getElem hlt,List.flatten_append,List.flatten_singleton,List.length_append]
    have hb2:=hSb.out k (by omega) hk; generalize S k = sk at *; generalize parts[k] = p at *; replace hx:=Hj hx; go_wp2; go_roundw
    case rel => exact ⟨k + 1,by go_num,by omega,by rw [hf]; go_num,trivial⟩
    case measure => simp [intOf]; omega
   ·obtain rfl : k = parts.length:=by omega
    by_cases h9 : S parts.length ≤ 9000
    ·have q9 : decide ((S parts.length : Int) ≤ 9000) = true:=decide_eq_true (by omega)
     go_wp2; go_ret; exact ⟨by rw [decide_eq_true (show parts.length ≤ 24 ∧ S parts.length ≤ 9000 from ⟨h24,h9⟩)]; first | rfl | (show Ending.returned (.bool (decide ((S parts.length : Int) ≤ 9000))) = _; rw [q9]),rfl⟩
    ·have q9 : decide ((S parts.length : Int) ≤ 9000) = false:=decide_eq_false (by omega)
     go_wp2; go_ret; exact ⟨by rw [decide_eq_false (show ¬ (parts.length ≤ 24 ∧ S parts.length ≤ 9000) from fun h => h9 h.2)]; first | rfl | (show Ending.returned (.bool (decide ((S parts.length : Int) ≤ 9000))) = _; rw [q9]),rfl⟩
 ·go_wp2
  go_loopw [3,4] (fun v i wr => ∃ (k : Nat) (z : Int),i = .int .i64 (k : Int) ∧ k ≤ parts.length ∧ v = .int .i64 z ∧ wr = w) (fun _ i _ => parts.length - (intOf i).toNat)
  case atStart => exact ⟨0,_,rfl,Nat.zero_le _,rfl,rfl⟩
  case round =>
   obtain ⟨k,z,rfl,hk,rfl,rfl⟩:=hrel
   by_cases hlt : k < parts.length
   ·obtain ⟨_,_,e',-,-,hb⟩:=id hR.out
    cases e'; obtain ⟨b,o,rfl,-,hx⟩:=hb (by omega)
    have d1:=hx k _ (strs_at hlt); have hs : (str parts[k]).size = parts[k].length:=str_size _
    generalize parts[k] = p at *; replace hx:=Hj hx; go_wp2; go_roundw
    case rel => exact ⟨k + 1,_,by go_num,by omega,rfl,trivial⟩
    case measure => simp [intOf]; omega
   ·obtain rfl : k = parts.length:=by omega
    go_wp2; go_ret; exact ⟨by first | rfl | (rw [decide_eq_false (show ¬ (parts.length ≤ 24 ∧ S parts.length ≤ 9000) from fun h => h24 h.1)]; rfl),rfl⟩
end Go.Proofs.YtibcbaghgpemfaaGreatDoor
namespace Go.Proofs.YtibcbaghgpemfaaGreatDoor
open Go.ChangeShapes Go.WideShapes Go.RowKit
theorem cell_plain {w : World} {a : Addr} {v : Value} (h : w.cell? a = some v) : a = ⟨a.block,a.off,none⟩:=by
 have:=World.cell?_spot h
 cases a
 simp_all
theorem add_flat (b o i : Nat) : (⟨b,o,none⟩ : Addr).add i = ⟨b,o + i,none⟩:=by unfold Addr.add; split <;> simp_all
theorem weights_all {H : Type} {P : Program} {e : TypeId} {d : DataW H} {n : Nat} : ∀ {l : List (DataW H)},d ∈ l → n ∈ d.weights P e → n ∈ DataW.weightsAll P e l
 | x :: l,h,hn => by
  simp only [DataW.weightsAll,List.mem_append]
  rcases List.mem_cons.1 h with rfl | h
  ·exact .inl hn
  ·exact .inr (weights_all h hn)
set_option maxRecDepth 100000 in
theorem texts_in2 {H : Type} {enc : TypeId × Value → H} {W : World} {base : Nat} {v : Value} {d : DataW H} {ps : List MemPlace}
  (hv : Value.okWide Tryz.prog W .any base 22 v) (h : DataW.Trod enc Tryz.prog W 0 (fun _ => true) true 22 v d ps) (hw : ∀ n ∈ d.weights Tryz.prog 22,n ≤ reachBytes) :
  ∃ ts : List (List UInt8),Rd W 1 v ts.length (strs ts) ∧ (∀ t ∈ ts,t.length ≤ 140737488355328) ∧ ts.length ≤ 140737488355328:=by
 obtain ⟨A,len,cap,rfl⟩:=okWide_slice Tryz.underlying22 hv
 obtain ⟨fuel,hf⟩:=h
 rcases Go.Deep.open_strs Tryz.underlying22 Tryz.underlying9 (by kernel_rfl) hf with ⟨hcs,_⟩ | ⟨a,n,c,m,Sx,hcs,_,hl,hm,hmm,hx,hcell⟩
 ·simp [Value.cells] at hcs
  obtain ⟨rfl,rfl,rfl⟩:=hcs
  exact ⟨[],Rd.nil W 1,by simp,by simp⟩
 ·simp [Value.cells] at hcs
  obtain ⟨rfl,rfl,rfl⟩:=hcs
  have hnm : len ≤ m:=by rw [hmm]; simp; omega
  have hd : d = .slice ((List.range len).map fun i => .lit (.string (Sx i).data.toList)) ((List.range (m - len)).map fun j => .lit (.string (Sx (len + j)).data.toList)):=congrArg Prod.fst hx
  subst hd; refine ⟨(List.range len).map fun i => bs (Sx i),?_,?_,?_⟩
  ·have hL : ((List.range len).map fun i => bs (Sx i)).length = len:=by simp
   rw [hL]
   refine ⟨_,_,rfl,hl,by simp [strs],fun hn => ?_⟩
   have ha : a = ⟨a.block,a.off,none⟩:=by
    have h0:=(hcell 0 (by omega)).1; have : a.add 0 = a:=by unfold Addr.add; simp
    rw [this] at h0
    exact cell_plain h0
   refine ⟨a.block,a.off,congrArg some ha,cell_lt (a:=a.add 0) (hcell 0 (by omega)).1 |> fun h => by simpa [Addr.add] using h,fun j u hu => ?_⟩
   have hj : j < len:=by
    rcases Nat.lt_or_ge j len with h | h
    ·exact h
    ·rw [List.getElem?_eq_none (by simp [strs]; omega)] at hu; cases hu
   have h1:=(hcell j (by omega)).1; rw [ha,add_flat] at h1
   rw [h1,← hu]
   simp [strs,hj,str_bs]
  ·intro t ht
   rw [List.mem_map] at ht
   obtain ⟨i,hi,rfl⟩:=ht
   have hmem : DataW.lit (H:=H) (.string (Sx i).data.toList) ∈ (List.range len).map fun i => DataW.lit (.string (Sx i).data.toList):=List.mem_map.2 ⟨i,hi,rfl⟩
   have hin:=hw (Sx i).data.toList.length (by
    simp only [DataW.weights,Tryz.underlying22,List.mem_cons,List.mem_append]
    exact .inr (.inl (weights_all hmem (by simp [DataW.weights]))))
   have hre : reachBytes ≤ 140737488355328:=by decide
   show (Sx i).data.toList.length ≤ _
   omega
  ·have hh:=hw ((((List.range len).map fun i => DataW.lit (H:=H) (.string (Sx i).data.toList)).length + ((List.range (m - len)).map fun j => DataW.lit (H:=H) (.string (Sx (len + j)).data.toList)).length) * Tryz.prog.bytesOf 9) (by simp only [DataW.weights,Tryz.underlying22,List.mem_cons,true_or])
   rw [show Tryz.prog.bytesOf 9 = 16 from by kernel_rfl] at hh
   simp only [List.length_map,List.length_range] at hh ⊢
   have hre : reachBytes ≤ 140737488355328:=by decide
   omega
end Go.Proofs.YtibcbaghgpemfaaGreatDoor
namespace Go.Proofs.YtibcbaghgpemfaaGreatDoor
open Go.RowKit Syn Hd Fr Ck
def FC (rs : Bool) (ms : List (List UInt8)) (parts : List (List UInt8)) (n : Nat) (vm : Value) (g gx : Nat) (F : Nat → Prop) (wL : World) (all v9 v10 : Value) (wx : World) : Prop :=
 ∃ (c' : Cn.C) (la lw : List Cn.Ev) (X : List UInt8) (cl : Bool) (xs : List Value) (A9 : Option Addr) (c9 : Nat),v9 = .slice A9 lw.length c9 ∧ v10 = errV c'.err ∧ Cn.FP (Cn.new rs ms) X cl la lw c'.err ∧ Cn.EvsC wx (fun _ => True) lw xs ∧ Rd wx 8 (.slice A9 lw.length c9) lw.length xs ∧
  Cn.FL c' la X cl rs vm g gx F wL all wx ∧ X.length ≤ 9000 ∧ ((n < parts.length ∧ cl = false ∧ X = (parts.take (n + 1)).flatten ∧ c' = (Cn.feed (Cn.new rs ms) (parts.take (n + 1))).1 ∧ la ++ lw = (Cn.feed (Cn.new rs ms) (parts.take (n + 1))).2) ∨ n = parts.length)
theorem flat_take (l : List (List UInt8)) (n : Nat) : (l.take n).flatten.length ≤ l.flatten.length:=by
 conv => rhs; rw [← List.take_append_drop n l,List.flatten_append,List.length_append]
 omega
theorem flat_snoc {l : List (List UInt8)} {n : Nat} (h : n < l.length) : (l.take (n + 1)).flatten = (l.take n).flatten ++ l[n]:=by
 rw [List.take_succ_eq_append_getElem h,List.flatten_append,List.flatten_singleton]
set_option maxRecDepth 100000 in
set_option maxHeartbeats 16000000 in
theorem follow_any (rs : Bool) (ms : List (List UInt8)) (Am : Option Addr) (cm : Nat) (parts : List (List UInt8)) (Ap : Option Addr) (cp : Nat) (g lo : Nat) (F : Nat → Prop) (w : World) (hA : Cn.At w g F (Cn.new rs ms)) (hF : ∀ k,F k → lo ≤ k) (hlo : lo ≤ w.heap.size)
  (hm : Rd w 1 (.slice Am ms.length cm) ms.length (strs ms)) (hmF : 0 < ms.length → On (fun k => k < lo) (.slice Am ms.length cm)) (hp : Rd w 1 (.slice Ap parts.length cp) parts.length (strs parts)) (hpF : 0 < parts.length → On (fun k => k < lo) (.slice Ap parts.length cp))
  (hp9 : parts.flatten.length ≤ 9000) (hp24 : parts.length ≤ 24) (hM : ∀ w',Below lo w w' → MaxL w') :
  Calls Tryz.prog 38 #[.pointer (some ⟨g,0,none⟩),.agg #[.string ⟨#[]⟩,.bool false,.bool rs,.slice Am ms.length cm],.slice Ap parts.length cp] w fun e w' => e = .returned (.bool true) ∧ Below lo w w':=by
 have hFlt : ∀ k,F k → k < w.heap.size:=fun k h => hA.2.1 k h
 have hX0:=Blk.new w 84 #[.string ⟨#[]⟩,.bool false,.bool rs,.slice Am ms.length cm]; have hB0:=(Below.refl w.heap.size w).alloc (Nat.le_refl _) (.cells #[.string ⟨#[]⟩,.bool false,.bool rs,.slice Am ms.length cm] 84); have hzL : (w.alloc (.cells #[.string ⟨#[]⟩,.bool false,.bool rs,.slice Am ms.length cm] 84)).heap.size = w.heap.size + 1:=alloc_size' _ _
 go_enter Tryz.func38,Tryz.ntmps38
 go_upto_region 2 with (fail)
 obtain ⟨gx,hgx⟩ : ∃ gx,w.heap.size = gx:=⟨_,rfl⟩
 generalize w.alloc (.cells #[.string ⟨#[]⟩,.bool false,.bool rs,.slice Am ms.length cm] 84) = wL at *; rw [hgx] at hX0 hzL hlo hFlt ⊢
 have hAL:=hA.kp ((Kp.refl (fun _ => False) w).below hB0) (fun _ _ h => h); have hmL:=hm.below hB0; have hpL:=hp.below hB0; have hBL:=hB0.mono (B':=lo) (by omega); replace hM:=Hj hM; replace hmF:=Hj hmF; replace hpF:=Hj hpF; replace hFlt:=Hj hFlt; replace hF:=Hj hF; replace hAL:=Hj hAL; replace hmL:=Hj hmL; replace hpL:=Hj hpL; replace hBL:=Hj hBL; replace hX0:=Hj hX0; clear hA hm hp hB0; have hgo : ∀ wr : World,Kp (fun k => F k ∨ k = gx) wL wr → Below lo w wr:=fun wr hk => hBL.out.trans (hk.toBelow (by omega) (fun k h => h.elim (hF.out k) (fun e => by omega)))
 have hkeep : ∀ wr : World,Kp (fun k => F k ∨ k = gx) wL wr → Rd wr 1 (.slice Am ms.length cm) ms.length (strs ms) ∧ Rd wr 1 (.slice Ap parts.length cp) parts.length (strs parts):=fun wr hk =>
  ⟨Cn.rd_kp0 hmL.out (fun h k e h2 => by have h3:=hmF.out h k e; rcases h2 with h2 | h2; (have:=hF.out k h2; omega); omega) hk,Cn.rd_kp0 hpL.out (fun h k e h2 => by have h3:=hpF.out h k e; rcases h2 with h2 | h2; (have:=hF.out k h2; omega); omega) hk⟩
 replace hgo:=Hj hgo; replace hkeep:=Hj hkeep; go_wp2; go_loopw [7,8] (fun all i wr => ∃ n : Nat,i = .int .i64 (n : Int) ∧ Hid ((n ≤ parts.length ∧ ∃ A c,all = .slice A (Cn.feed (Cn.new rs ms) (parts.take n)).2.length c ∧ Cn.FL (Cn.feed (Cn.new rs ms) (parts.take n)).1 (Cn.feed (Cn.new rs ms) (parts.take n)).2 (parts.take n).flatten false rs (.slice Am ms.length cm) g gx F wL all wr) ∨ (n = parts.length + 1 ∧ Kp (fun k => F k ∨ k = gx) wL wr))) (fun _ i _ => parts.length + 1 - (intOf i).toNat)
 case atStart => exact ⟨0,rfl,Hj (.inl ⟨Nat.zero_le _,none,0,rfl,F,[],hAL.out,fun k h => .inl h,Kp.refl _ _,own_nil _ _ _ _,(fun k h => by cases h),.nil,hX0.out⟩)⟩
 case round =>
  obtain ⟨n,rfl,hrel⟩:=hrel
  rcases hrel.out with ⟨hle,A7,c7,rfl,hFL⟩ | ⟨rfl,hK⟩
  ·clear hrel
   have hft:=Cn.feed_buf rs ms (parts.take n); have hxl : (parts.take n).flatten.length ≤ 9000:=Nat.le_trans (flat_take parts n) hp9
   have hbf : (Cn.feed (Cn.new rs ms) (parts.take n)).1.buf.length ≤ 9000:=Nat.le_trans hft.1 hxl
   have hFP : ∀ b,((parts.take n ++ [b]).flatten).length ≤ 9000 → Cn.FP (Cn.new rs ms) (parts.take n ++ [b]).flatten false (Cn.feed (Cn.new rs ms) (parts.take n)).2 (Cn.write (Cn.feed (Cn.new rs ms) (parts.take n)).1 b).2 (Cn.write (Cn.feed (Cn.new rs ms) (parts.take n)).1 b).1.err:=fun b h => Cn.FP.write rs ms (parts.take n) b h
   have hFQ:=Cn.FP.close rs ms (parts.take n) hxl; have hnx : ∀ hlt : n < parts.length,Cn.feed (Cn.new rs ms) (parts.take (n + 1)) = ((Cn.write (Cn.feed (Cn.new rs ms) (parts.take n)).1 parts[n]).1,(Cn.feed (Cn.new rs ms) (parts.take n)).2 ++ (Cn.write (Cn.feed (Cn.new rs ms) (parts.take n)).1 parts[n]).2):=fun hlt => by rw [List.take_succ_eq_append_getElem hlt,Cn.feed_snoc]
   generalize Cn.feed (Cn.new rs ms) (parts.take n) = fn at *; obtain ⟨c,la⟩:=fn
   simp only at hFL hbf hFP hFQ hnx ⊢
   replace hFP:=Hj hFP; replace hFQ:=Hj hFQ; replace hnx:=Hj hnx; replace hxl:=Hj hxl; replace hbf:=Hj hbf; clear hft; obtain ⟨F',ys,hAr,hFF,hKr,hOr,hOff,hDr,hXr⟩:=id hFL; have hzr:=hKr.size; have hFr : ∀ k,F' k → k < wr.heap.size:=fun k h => hAr.2.1 k h
   have hFgx : ¬ F' gx:=fun h => (hFF gx h).elim (fun h => by have:=hFlt.out gx h; omega) (fun h => by omega)
   have hFlo : ∀ k,F' k → lo ≤ k:=fun k h => (hFF k h).elim (hF.out k) (fun h => by omega)
   have hBr:=hgo.out wr hKr; obtain ⟨hmr,hpr⟩:=hkeep.out wr hKr
   have x0 : wr.cell? ⟨gx,0,none⟩ = some (.string (str (parts.take n).flatten)):=hXr.cell 0
   have z0:=hXr.frozen 0; have z1:=hXr.frozen 1; replace hFL:=Hj hFL; replace hAr:=Hj hAr; replace hFF:=Hj hFF; replace hKr:=Hj hKr; replace hOr:=Hj hOr; replace hOff:=Hj hOff; replace hDr:=Hj hDr; replace hXr:=Hj hXr; replace hFr:=Hj hFr; replace hFgx:=Hj hFgx; replace hFlo:=Hj hFlo; replace hBr:=Hj hBr; replace hmr:=Hj hmr; replace hpr:=Hj hpr; go_upto_if 24 with (fail)
   go_cut [9,10] (fun v9 v10 wx => FC rs ms parts n (.slice Am ms.length cm) g gx F wL (.slice A7 la.length c7) v9 v10 wx)
   case first =>
    by_cases hlt : n < parts.length
    ·obtain ⟨_,_,e',-,-,hb'⟩:=id hpr.out
     cases e'; obtain ⟨b1,o1,rfl,-,hx1⟩:=hb' (by omega)
     have d1 : wr.cell? ⟨b1,o1 + n,none⟩ = some (.string (str parts[n])):=hx1 n _ (strs_at hlt)
     have hpo : b1 < lo:=hpF.out (by omega) b1 rfl
     clear hx1 hb'; have hb9 : parts[n].length ≤ 9000:=by have h1:=flat_snoc hlt; have h2:=flat_take parts (n + 1); rw [h1,List.length_append] at h2; omega
     have hnx2:=hnx.out hlt; have hfs:=flat_snoc hlt; have hFP2:=hFP.out parts[n] (by rw [← List.take_succ_eq_append_getElem hlt]; exact Nat.le_trans (flat_take parts (n + 1)) hp9)
     rw [← List.take_succ_eq_append_getElem hlt] at hFP2
     have hX9 : (parts.take (n + 1)).flatten.length ≤ 9000:=Nat.le_trans (flat_take parts (n + 1)) hp9
     generalize parts[n] = b at *; obtain ⟨w4,c4,hcv,hRb,hb4,hI4,hz4⟩:=conv_inr b wr
     have hA4:=hAr.out.kp ((Kp.refl (fun _ => False) wr).below hb4) (fun _ _ h => h); have hB4:=hBr.out.trans (hb4.mono (by omega)); have hbs:=hbf.out; have hW4:=connwrite_any hA4 b _ _ hRb (by omega) (fun w' hk => hM.out w' (hB4.trans (hk.toBelow (by omega) hFlo.out))); have d4 : w4.cell? ⟨b1,o1 + n,none⟩ = some (.string (str b)):=by rw [← d1]; exact ((Kp.refl (fun _ => False) wr).below hb4).cell (p:=⟨b1,o1 + n,none⟩) (show b1 < wr.heap.size by omega) id
     replace hW4:=Hj hW4; replace hb4:=Hj hb4; replace hI4:=Hj hI4; replace hB4:=Hj hB4; replace hnx2:=Hj hnx2; replace hfs:=Hj hfs; replace hFP2:=Hj hFP2; replace hX9:=Hj hX9; clear hRb hA4 hbs; go_wp2_with fail
     refine hW4.out.mono ?_
     rintro e w5 ⟨o5,F5,xs5,rfl,hE5,hR5,hO5,hFF5,hk5,hA5⟩
     obtain ⟨A5,c5,rfl,-,-,-⟩:=id hR5; have hI5:=hI4.out.kp hk5 (fun h => by have:=hFr.out _ h; omega)
     have hX5:=(hXr.out.below hb4.out).kp hFgx.out hk5; have d5 : w5.cell? ⟨b1,o1 + n,none⟩ = some (.string (str b)):=by rw [← d4]; exact hk5.cell (p:=⟨b1,o1 + n,none⟩) (show b1 < w4.heap.size by omega) (fun h => by have h2:=hFlo.out _ h; exact absurd h2 (by show ¬ lo ≤ b1; omega))
     have hz5:=hk5.size; replace hI5:=Hj hI5; replace hX5:=Hj hX5; replace hE5:=Hj hE5; replace hR5:=Hj hR5; replace hO5:=Hj hO5; replace hFF5:=Hj hFF5; replace hk5:=Hj hk5; replace hA5:=Hj hA5; clear x0 z0 z1 d1 d4 hcv hW4; have h255 : ∀ z : Int,0 ≤ IntKind.u8.wrap z ∧ IntKind.u8.wrap z ≤ 255:=u8_range
     obtain ⟨gin,hgin⟩ : ∃ gin,wr.heap.size = gin:=⟨_,rfl⟩
     rw [hgin] at hI5 ⊢
     generalize hrw : Cn.write c b = rw_ at *; obtain ⟨c',lw⟩:=rw_
     simp only at hE5 hR5 hA5 hFP2 hnx2 ⊢
     replace hrw:=Hj hrw; go_wp2; go_loopw [12] (fun i w6 => ∃ k : Nat,i = .int .i64 (k : Int) ∧ k ≤ b.length ∧ Hid (InR w6 gin b.length) ∧ Hid (Kp (fun k => k = gin) w5 w6)) (fun i _ => b.length - (intOf i).toNat)
     case atStart => exact ⟨0,rfl,Nat.zero_le _,hI5,Hj (Kp.refl _ _)⟩
     case round =>
      obtain ⟨k,rfl,hk,hI,hKp⟩:=hrel
      rename World => w6
      by_cases hlk : k < b.length
      ·obtain ⟨⟨z,z0,z1,cz⟩,fz⟩:=hI.out.2 k hlk
       have hI':=Hj (hI.out.set hlk (h255 (z + 1)).1 (h255 (z + 1)).2); have hKp':=Hj (hKp.out.set_ (g:=gin) (fun _ => rfl) k (.int .u8 (IntKind.u8.wrap (z + 1)))); go_wp2; go_roundw
       case rel => exact ⟨k + 1,by go_num,by omega,hI',hKp'⟩
       case measure => simp only [intOf]; omega
      ·obtain rfl : k = b.length:=by omega
       have hX6:=hX5.out.kp (fun e : gx = gin => by omega) hKp.out; have x0 : w6.cell? ⟨gx,0,none⟩ = some (.string (str (parts.take n).flatten)):=hX6.cell 0
       have z0:=hX6.frozen 0; have d6 : w6.cell? ⟨b1,o1 + n,none⟩ = some (.string (str b)):=by rw [← d5]; exact hKp.out.cell (p:=⟨b1,o1 + n,none⟩) (show b1 < w5.heap.size by omega) (show ¬ b1 = gin by omega)
       have hap:=str_append (parts.take n).flatten b; replace hX6:=Hj hX6; replace hap:=Hj hap; clear d5; have hsz1 : (str (parts.take n).flatten).size ≤ 9000:=by rw [str_size]; exact hxl.out
       have hsz2 : (str b).size ≤ 9000:=by rw [str_size]; exact hb9
       go_wp2; go_region
       all_goals
        go_wp2; go_meet; have hk7:=(hKp.out.mono (F:=fun k => k = gx ∨ k = gin) (fun k _ e => .inr e)).set_ (g:=gx) (fun _ => .inl rfl) 0 (.string (str (parts.take n).flatten ++ str b)) |>.drew; refine ⟨c',la,lw,(parts.take (n + 1)).flatten,false,xs5,A5,c5,rfl,rfl,hFP2.out,(hE5.out.kp hk7 (fun k hp h => ?_)).mono (fun _ _ => trivial),hR5.out.kp (hO5.out.off (fun k hp h => ?_)) hk7,Cn.FL.step hFF.out hKr.out hOr.out hOff.out hDr.out (by omega) hb4.out hFF5.out hk5.out hA5.out (fun k h => ⟨fun h5 => ?_,?_⟩) hk7 (by rw [hfs.out,hap.out]; exact (hX6.out.set_ 0 _).drew),hX9.out,.inl ⟨hlt,rfl,rfl,by rw [hnx2.out],by rw [hnx2.out]⟩⟩
        ·have:=hp.1; rcases h with h | h <;> omega
        ·have:=hp.1; rcases h with h | h <;> omega
        ·rcases hFF5.out k h5 with h6 | h6
         ·have h7:=hFr.out k h6
          rcases h with h | h
          ·rw [h] at h6; exact hFgx.out h6
          ·omega
         ·rcases h with h | h <;> omega
        ·rcases h with h | h
         ·exact .inl h
         ·exact .inr (by omega)
    ·have hne : n = parts.length:=by omega
     have hCl:=Hj (close_any hAr.out (by have:=hbf.out; omega))
     replace hne:=Hj hne; go_wp2_with fail
     refine hCl.out.mono ?_
     rintro e w5 ⟨o5,F5,xs5,rfl,hE5,hR5,hO5,hFF5,hk5,hA5⟩
     obtain ⟨A5,c5,rfl,-,-,-⟩:=id hR5; have hX5:=hXr.out.kp hFgx.out hk5; have x1 : w5.cell? ⟨gx,1,none⟩ = some (.bool false):=hX5.cell 1
     have y1:=hX5.frozen 1; have hz5:=hk5.size; generalize hrw : Cn.close c = rw_ at *; obtain ⟨c',lw⟩:=rw_
     simp only at hE5 hR5 hA5 ⊢
     replace hrw:=Hj hrw; replace hX5:=Hj hX5; replace hE5:=Hj hE5; replace hR5:=Hj hR5; replace hO5:=Hj hO5; replace hFF5:=Hj hFF5; replace hk5:=Hj hk5; replace hA5:=Hj hA5; clear x0 z0 z1 hCl; go_wp2; go_meet; have hk7:=(Kp.refl (fun k => k = gx) w5).set_ (g:=gx) (fun _ => rfl) 1 (.bool true); refine ⟨c',la,lw,(parts.take n).flatten,true,xs5,A5,c5,rfl,rfl,hFQ.out,(hE5.out.kp hk7 (fun k hp (h : k = gx) => by have:=hp.1; omega)).mono (fun _ _ => trivial),hR5.out.kp (hO5.out.off (fun k hp (h : k = gx) => by have:=hp.1; omega)) hk7,Cn.FL.step hFF.out hKr.out hOr.out hOff.out hDr.out (by omega) (Below.refl _ wr) hFF5.out hk5.out hA5.out (fun k (h : k = gx) => ⟨fun h5 => ?_,.inl h⟩) hk7 (hX5.out.set_ 1 _),hxl.out,.inr hne.out⟩
     rcases hFF5.out k h5 with h6 | h6
     ·rw [h] at h6; exact hFgx.out h6
     ·omega
   case rest =>
    clear hFL hAr hFF hOr hOff hDr hXr hFr hFgx hFlo hBr hmr hpr hFP hFQ hnx x0 z0 z1 hKr; obtain ⟨c',la2,lw,X,cl,xs,A9,c9,rfl,rfl,hFP,hE,hR,hFL2,hX9,hnext⟩:=hcut
    rename World => w1
    have hPr:=Hj (proper_any (.slice A9 lw.length c9) w1 hE hR hFP.na (by have:=hFP.nw; omega))
    have hRf:=Hj (ref_any (.slice A9 lw.length c9) w1 hE hR hFP.fw (by have:=hFP.nw; omega))
    replace hFP:=Hj hFP; replace hFL2:=Hj hFL2; replace hnext:=Hj hnext; clear hE hR; go_wp2_with fail
    refine hPr.out.mono ?_
    rintro e wq ⟨rfl,hwq⟩
    subst hwq; go_wp2_with fail
    refine hRf.out.mono ?_
    rintro e w2 ⟨o2,ys2,rfl,hO2,hD2,hb2⟩
    obtain ⟨ys,hOa,hzw,hpush⟩:=Cn.FL.push hFL2.out (by omega) hb2 hO2 hD2
    have hx2:=hD2.cells1; have hR2:=Rd.own hO2; obtain ⟨A2,c2,rfl,-,-,-⟩:=id hR2; have hn2:=hFP.out.na2; rw [List.length_append] at hn2
    replace hOa:=Hj hOa; replace hpush:=Hj hpush; replace hx2:=Hj hx2; replace hR2:=Hj hR2; clear hO2 hD2 hb2 hPr hRf; go_wp2_with (at_builtin; refine push_dvs (n:=la2.length) (m:=lw.length) (c:=c2) (A:=A2) _ _ rfl rfl rfl hOa.out rfl hR2.out hx2.out (by omega) (by omega) ?_; intro v7 w7 ho7 hg7 hat7; have hFL7:=hpush.out v7 w7 ho7 hg7 hat7; obtain ⟨F7,ys7,-,-,hK7,-,-,-,hX7⟩:=id hFL7; have x0 : w7.cell? ⟨gx,0,none⟩ = some (.string (str X)):=hX7.cell 0; have x1 : w7.cell? ⟨gx,1,none⟩ = some (.bool cl):=hX7.cell 1; have x2 : w7.cell? ⟨gx,2,none⟩ = some (.bool rs):=hX7.cell 2; have x3 : w7.cell? ⟨gx,3,none⟩ = some (.slice Am ms.length cm):=hX7.cell 3; have hm7:=Hj (hkeep.out w7 hK7).1; obtain ⟨A7',c7',rfl,-,-,-⟩:=id (Rd.own ho7); replace hFL7:=Hj hFL7; clear ho7 hg7 hat7 hX7 hK7)
    have hRd:=dread_any X cl rs ms Am cm w7 hm7.out (by omega); unfold DRd at hRd
    rw [← hFP.out.e,← hFP.out.j] at hRd
    replace hRd:=Hj hRd; refine hRd.out.mono ?_
    rintro e w8 ⟨o8,ys8,rfl,hO8,hD8,hb8⟩
    replace hO8:=Hj hO8; replace hD8:=Hj hD8; have hFL8:=Hj (hFL7.out.below hb8); clear x0 x1 x2 x3 hRd hm7 hb8 hFL7; have hNm:=Hj (fun w => num_any c'.err w); go_wp2_with fail
    refine (hNm.out _).mono ?_
    rintro e w9 ⟨rfl,hw9⟩
    subst hw9; obtain ⟨F8,ys8',-,-,-,hOl8,-,hDl8,-⟩:=id hFL8.out; have hJ:=Hj (joined_any (.slice A7' (la2.length + lw.length) c7') _ hDl8 (Rd.own hOl8) (by have:=hFP.out.na2; omega) hFP.out.ds)
    clear hOl8 hDl8; go_wp2_with fail
    refine hJ.out.mono ?_
    rintro e w10 ⟨o10,ys10,rfl,hO10,hD10,hb10⟩
    have hD8':=hD8.out.kp ((Kp.refl (fun _ => False) _).below hb10) (fun _ _ h => h); have hD10':=hD10.kp ((Kp.refl (fun _ => False) _).below hb10) (fun _ _ h => h); have hSm:=Hj (same_yes8 w10 hD10' (Rd.own hO10) hD8' ((Rd.own hO8.out).below hb10) hFP.out.fj (by have:=hFP.out.nj; omega))
    have hFL10:=Hj (hFL8.out.below hb10); clear hD8' hD10' hD10 hO10 hb10 hO8 hD8 hJ hFL8; go_wp2_with fail
    refine hSm.out.mono ?_
    rintro e w11 ⟨rfl,hb11⟩
    have hFL11:=Hj (hFL10.out.below hb11); clear hb11 hSm hFL10; go_wp2; go_roundw
    case rel =>
     refine ⟨n + 1,by go_num,Hj ?_⟩
     rcases hnext.out with ⟨hlt,rfl,rfl,rfl,hla⟩ | hne
     ·have hfl:=hFL11.out
      rw [hla] at hfl
      have hll:=congrArg List.length hla; rw [List.length_append] at hll
      rw [hll] at hfl ⊢
      exact .inl ⟨hlt,A7',c7',rfl,hfl⟩
     ·obtain ⟨_,_,-,-,hKz,-⟩:=hFL11.out
      exact .inr ⟨by omega,hKz⟩
    case measure => simp only [intOf]; omega
  ·have hK2:=hgo.out wr hK
   replace hK2:=Hj hK2; replace hK:=Hj hK; clear hrel; go_wp2; go_ret; exact ⟨rfl,hK2.out⟩
end Go.Proofs.YtibcbaghgpemfaaGreatDoor
namespace Go.Proofs.YtibcbaghgpemfaaGreatDoor
open Go.RowKit Syn Hd Fr Ck
set_option maxRecDepth 100000 in
set_option maxHeartbeats 8000000 in
theorem conreq_walk (parts : List (List UInt8)) (A : Option Addr) (cap : Nat) (w : World) (hR : Rd w 1 (.slice A parts.length cap) parts.length (strs parts)) (hl : ∀ t ∈ parts,t.length ≤ 140737488355328) (hn : parts.length ≤ 140737488355328) (hM : MaxL w) :
  Calls Tryz.prog 8 #[.slice A parts.length cap] w fun e w' => e = .returned (.bool true) ∧ Below w.heap.size w w':=by
 have hAw:=Hj (fun w hM => cnawake_any w hM); have hFi:=Hj (fun w' (hb : Below w.heap.size w w') => fits8_any parts A cap w' (hR.below hb) hl hn); replace hM:=Hj hM; replace hR:=Hj hR; go_enter Tryz.func8,Tryz.ntmps8
 go_wp2_with fail
 refine (hAw.out w hM.out).mono ?_
 rintro e w1 ⟨rfl,hb1⟩
 replace hb1:=Hj hb1; go_wp2_with fail
 refine (hFi.out w1 hb1.out).mono ?_
 rintro e wq ⟨rfl,hwq⟩
 subst hwq; have hM1:=Hj (hM.out.below hb1.out); have hz1:=hb1.out.size; by_cases hf : parts.length ≤ 24 ∧ parts.flatten.length ≤ 9000
 ·rw [decide_eq_true hf]
  have hR1:=Hj (hR.out.below hb1.out); go_wp2_with fail
  refine (newreq_any _).mono ?_
  rintro e w2 ⟨rfl,hw2⟩
  have hb2 : Below wq.heap.size wq w2:=by rw [hw2]; exact (Below.refl _ wq).alloc (Nat.le_refl _) _
  have hA2 : Cn.At w2 wq.heap.size (· = wq.heap.size) (Cn.new false []):=by rw [hw2]; exact newreq_at wq
  clear hw2; have hFo:=Hj (follow_any false [] none 0 parts A cap wq.heap.size wq.heap.size (· = wq.heap.size) w2 hA2 (fun k e => by omega) hb2.size (Rd.nil w2 1) (fun h => absurd h (Nat.lt_irrefl 0)) (hR1.out.below hb2) (fun h k e => Rd.lt0 hR1.out h k e) hf.2 hf.1 (fun w' hb => hM1.out.below (hb2.trans hb))); have hb2':=Hj (hb1.out.trans (hb2.mono hz1)); clear hA2 hb2; go_wp2_with fail
  refine hFo.out.mono ?_
  rintro e w3 ⟨rfl,hb3⟩
  have hb3':=Hj (hb2'.out.trans (hb3.mono hz1)); clear hb3; go_wp2; go_ret; exact ⟨rfl,hb3'.out⟩
 ·rw [decide_eq_false hf]
  go_wp2_with fail
  refine (hAw.out _ hM1.out).mono ?_
  rintro e w2 ⟨rfl,hb2⟩
  have hb2':=Hj (hb1.out.trans (hb2.mono hz1)); clear hb2; go_wp2; go_ret; exact ⟨rfl,hb2'.out⟩
theorem own_blk1 {w : World} {B n cap : Nat} {t : TypeId} {A : Option Addr} {xs : List Value} (h : Own w B t 1 (.slice A n cap) n xs) (hn : 0 < n) : ∃ g cur,A = some ⟨g,0,none⟩ ∧ B ≤ g ∧ Blk w g t cur ∧ n ≤ cur.size:=by
 obtain ⟨hl,h⟩:=h
 rcases h with ⟨h1,h2⟩ | ⟨g,cap',cur,e,hB,hg,hnc,hm,hs,ht⟩
 ·exact absurd hn (by omega)
 ·cases e
  exact ⟨g,cur,rfl,hB,hg,by rw [Nat.mul_one] at hs; omega⟩
set_option maxRecDepth 100000 in
set_option maxHeartbeats 8000000 in
theorem conresp_walk (ms : List (List UInt8)) (Am : Option Addr) (cm : Nat) (parts : List (List UInt8)) (A : Option Addr) (cap : Nat) (w : World) (hm : Rd w 1 (.slice Am ms.length cm) ms.length (strs ms)) (hR : Rd w 1 (.slice A parts.length cap) parts.length (strs parts)) (hl : ∀ t ∈ parts,t.length ≤ 140737488355328) (hn : parts.length ≤ 140737488355328) (hM : MaxL w) :
  Calls Tryz.prog 10 #[.slice Am ms.length cm,.slice A parts.length cap] w fun e w' => e = .returned (.bool true) ∧ Below w.heap.size w w':=by
 have hAw:=Hj (fun w hM => cnawake_any w hM); have hFi:=Hj (fun w' (hb : Below w.heap.size w w') => fits8_any parts A cap w' (hR.below hb) hl hn); replace hM:=Hj hM; replace hR:=Hj hR; replace hm:=Hj hm; go_enter Tryz.func10,Tryz.ntmps10
 go_wp2_with fail
 refine (hAw.out w hM.out).mono ?_
 rintro e w1 ⟨rfl,hb1⟩
 replace hb1:=Hj hb1; go_wp2_with fail
 refine (hFi.out w1 hb1.out).mono ?_
 rintro e wq ⟨rfl,hwq⟩
 subst hwq; have hM1:=Hj (hM.out.below hb1.out); have hz1:=hb1.out.size; have hend : Calls Tryz.prog 34 #[] wq fun e w' => e = .returned (.bool true) ∧ Below w.heap.size w w':=by
  refine (hAw.out wq hM1.out).mono ?_
  rintro e w3 ⟨rfl,hb3⟩
  exact ⟨rfl,hb1.out.trans (hb3.mono hz1)⟩
 replace hend:=Hj hend; by_cases hf : parts.length ≤ 24 ∧ parts.flatten.length ≤ 9000
 rotate_left
 ·rw [decide_eq_false hf]
  go_wp2_with fail
  refine hend.out.mono ?_
  rintro e w2 ⟨rfl,hb2⟩
  replace hb2:=Hj hb2; go_wp2; go_ret; exact ⟨rfl,hb2.out⟩
 ·rw [decide_eq_true hf]
  by_cases h70 : 70 < ms.length
  ·go_wp2_with fail
   refine hend.out.mono ?_
   rintro e w2 ⟨rfl,hb2⟩
   replace hb2:=Hj hb2; go_wp2; go_ret; exact ⟨rfl,hb2.out⟩
  ·have hR1:=Hj (hR.out.below hb1.out)
   have hm1:=Hj (hm.out.below hb1.out); have hmade:=Hj (World.ownsRow_made (base:=wq.heap.size) (size:=1) (e:=9) wq #[] 0 (Nat.le_refl _) (Nat.zero_le _) rfl); have hRA:=Hj (hm1.out.below ((Below.refl wq.heap.size wq).alloc (Nat.le_refl _) (.cells #[] 9))); have h1c : ∀ u ∈ strs ms,u.oneCell' = true:=fun u hu => by obtain ⟨x,-,rfl⟩:=List.mem_map.1 hu; rfl
   have hnA:=Hj ((Kp.refl (fun _ => False) wq).alloc (.cells #[] 9)); replace h1c:=Hj h1c; go_wp2_with (at_builtin; go_loud (refine step_pushR (v:=Value.slice (some ⟨wq.heap.size,0,none⟩) 0 0) (n:=0) (m:=ms.length) (xs:=[]) (news:=strs ms) (c:=cm) (A:=Am) (B:=wq.heap.size) 22 9 (.string ⟨#[]⟩) 1 16 _ _ rfl rfl Tryz.underlying22 infoStr rfl (by decide) (by decide) rfl hmade.out rfl hRA.out h1c.out (by omega) (by rw [alloc_size']; omega) ?_); intro v5 w5 ho5 hg5 hat5; rw [Nat.zero_add,List.nil_append] at ho5; have hn5:=Hj (hnA.out.grown hg5 (fun k e hlt => by cases e; exact absurd hlt (Nat.lt_irrefl _))); obtain ⟨A5,c5,rfl,-,-,-⟩:=id (Rd.own ho5); replace ho5:=Hj ho5; clear hg5 hat5)
   have hb5:=Hj (hn5.out.toBelow (Nat.le_refl _) (fun k h => h.elim)); have hNr:=Hj (newresp_any ms A5 c5 w5 (Rd.own ho5.out) (by omega)); refine hNr.out.mono ?_
   rintro e w6 ⟨g,F,rfl,hA6,hF6,hb6⟩
   have hO6:=own_below ho5.out hb6; have hz5:=hb5.out.size; have hz6:=hb6.size; have hB6:=Hj (hb1.out.trans ((hb5.out.trans (hb6.mono hz5)).mono hz1)); have hBq:=Hj (hb5.out.trans (hb6.mono hz5)); have hlt6 : ∀ k,F k → k < w6.heap.size:=fun k h => hA6.2.1 k h
   have hrow : 0 < ms.length → ∃ g5 cur,A5 = some ⟨g5,0,none⟩ ∧ wq.heap.size ≤ g5 ∧ g5 < w5.heap.size ∧ Blk w6 g5 9 cur ∧ ms.length ≤ cur.size:=fun h => by
    obtain ⟨g5,cur,rfl,h1,h2,h3⟩:=own_blk1 hO6 h
    exact ⟨g5,cur,rfl,h1,(World.ownsRow.lt ho5.out g5 rfl).2,h2,h3⟩
   clear hO6 hmade hRA h1c hnA hNr; replace hrow:=Hj hrow; replace hA6:=Hj hA6; replace hF6:=Hj hF6; replace hb6:=Hj hb6; replace hlt6:=Hj hlt6; go_wp2; go_loopw [7] (fun i wr => ∃ k : Nat,i = .int .i64 (k : Int) ∧ k ≤ ms.length ∧ Hid (Kp (fun b => wq.heap.size ≤ b ∧ b < w5.heap.size) w6 wr) ∧ Hid (∀ g5,0 < ms.length → A5 = some ⟨g5,0,none⟩ → ∃ cur,Blk wr g5 9 cur ∧ ms.length ≤ cur.size)) (fun i _ => ms.length - (intOf i).toNat)
   case atStart => exact ⟨0,rfl,Nat.zero_le _,Hj (Kp.refl _ _),Hj (fun g5 h e => by obtain ⟨g',cur,e2,-,-,h3,h4⟩:=hrow.out h; rw [e] at e2; cases e2; exact ⟨cur,h3,h4⟩)⟩
   case round =>
    obtain ⟨k,rfl,hk,hK,hC⟩:=hrel
    by_cases hlk : k < ms.length
    ·obtain ⟨g5,cur0,rfl,hg1,hg2,-,-⟩:=hrow.out (by omega)
     obtain ⟨cur,hc1,hc2⟩:=hC.out g5 (by omega) rfl
     have cz : wr.cell? ⟨g5,k,none⟩ = some (cur[k]'(by omega)):=by rw [hc1.cell k]; exact Array.getElem?_eq_getElem (by omega)
     have fz:=hc1.frozen k; have hc3:=Hj (hc1.set_ k (.string ⟨#[72,69,65,68]⟩)); have hK':=Hj (hK.out.set_ (g:=g5) (fun _ => ⟨hg1,hg2⟩) k (.string ⟨#[72,69,65,68]⟩)); replace hc1:=Hj hc1; generalize cur[k] = cv at cz
     go_wp2; go_roundw
     case rel => exact ⟨k + 1,by go_num,by omega,hK',Hj (fun g' _ e => by cases e; exact ⟨_,hc3.out,by rw [Array.size_setIfInBounds]; exact hc2⟩)⟩
     case measure => simp only [intOf]; omega
    ·have hBr:=hB6.out.trans (hK.out.toBelow (by omega) (fun k h => by omega))
     have hBqr:=hBq.out.trans (hK.out.toBelow (by omega) (fun k h => h.1)); have hAr:=hA6.out.kp hK.out (fun k h h2 => by have:=hF6.out k h; omega)
     have hFo:=Hj (follow_any true ms Am cm parts A cap g wq.heap.size F wr hAr (fun k h => by have:=hF6.out k h; omega) (by have:=hK.out.size; omega) (hm1.out.below hBqr) (fun h k e => Rd.lt0 hm1.out h k e) (hR1.out.below hBqr) (fun h k e => Rd.lt0 hR1.out h k e) hf.2 hf.1 (fun w' hb => hM1.out.below (hBqr.trans hb)))
     replace hBr:=Hj hBr; clear hBqr hAr hC; go_wp2_with fail
     refine hFo.out.mono ?_
     rintro e w7 ⟨rfl,hb7⟩
     have hb7':=Hj (hBr.out.trans (hb7.mono hz1)); clear hb7; go_wp2; go_ret; exact ⟨rfl,hb7'.out⟩
end Go.Proofs.YtibcbaghgpemfaaGreatDoor
