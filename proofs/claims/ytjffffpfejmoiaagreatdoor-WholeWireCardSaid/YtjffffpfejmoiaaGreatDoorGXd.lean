import Derived.Test.YtjffffpfejmoiaaGreatDoorGNu
import Derived.Test.YtjffffpfejmoiaaGreatDoorCIn
import Derived.Test.YtjffffpfejmoiaaGreatDoorGHo
import Derived.Test.YtjffffpfejmoiaaGreatDoorGLow
import Derived.Deep.RegionHeld3
import Derived.Deep.QuietTactic
import Derived.BigQuiet
namespace Go.Proofs.YtjffffpfejmoiaaGreatDoor
open Go.RowKit Syn Hd Fr Ck
namespace Cn
theorem G.ne {many many' : Nat} {b b' : Bd} {l : List Ev} (h : G many b l many' b') : ∀ e ∈ l,e.kind = 2 → e.data ≠ []:=by
 induction h with
 | nil => intro e he; cases he
 | head g1 g2 g3 g4 g5 _ ih =>
  intro e he hk; rcases List.mem_cons.1 he with rfl | he
  ·cases hk
  ·exact ih e he hk
 | data g1 g2 _ ih =>
  intro e he hk; rcases List.mem_cons.1 he with rfl | he
  ·exact g1
  ·exact ih e he hk
 | chk g1 g2 _ ih =>
  intro e he hk; rcases List.mem_cons.1 he with rfl | he
  ·exact g1
  ·exact ih e he hk
 | endL g1 g2 _ ih =>
  intro e he hk; rcases List.mem_cons.1 he with rfl | he
  ·cases hk
  ·exact ih e he hk
 | endC g1 _ ih =>
  intro e he hk; rcases List.mem_cons.1 he with rfl | he
  ·cases hk
  ·exact ih e he hk
theorem gath_fl {P : Flds → Prop} {o : List Rq} {e : Ev} (h : ∀ r ∈ o,P r.fl) (he : e.kind = 1 → P e.rf) : ∀ r ∈ gath o e,P r.fl:=by
 intro r hr; rcases List.eq_nil_or_concat o with rfl | ⟨i,q,rfl⟩
 ·by_cases h1 : e.kind = 1
  ·rw [gath_head h1] at hr
   obtain rfl:=List.mem_singleton.1 hr
   exact he h1
  ·rw [gath_none h1] at hr; cases hr
 ·rw [List.concat_eq_append] at h hr
  by_cases h1 : e.kind = 1
  ·rw [gath_head h1] at hr
   rcases List.mem_append.1 hr with hr | hr
   ·exact h r hr
   ·obtain rfl:=List.mem_singleton.1 hr
    exact he h1
  ·have hq:=h q (by simp)
   by_cases h2 : e.kind = 2
   ·rw [gath_data h2] at hr
    rcases List.mem_append.1 hr with hr | hr
    ·exact h r (List.mem_append_left _ hr)
    ·obtain rfl:=List.mem_singleton.1 hr
     exact hq
   ·rw [gath_end h1 h2] at hr
    rcases List.mem_append.1 hr with hr | hr
    ·exact h r (List.mem_append_left _ hr)
    ·obtain rfl:=List.mem_singleton.1 hr
     exact hq
theorem gathered_fl {P : Flds → Prop} : ∀ (l : List Ev) (o : List Rq),(∀ r ∈ o,P r.fl) → (∀ e ∈ l,e.kind = 1 → P e.rf) → ∀ r ∈ l.foldl gath o,P r.fl
 | [],_,h,_ => h
 | e :: l,o,h,he => gathered_fl l (gath o e) (gath_fl h (he e List.mem_cons_self)) (fun x hx => he x (List.mem_cons_of_mem _ hx))
theorem nmV_len (x : List UInt8) : (nmV x).length ≤ 64:=by
 unfold nmV
 by_cases h : nmE x = 0
 ·rw [if_pos h,lower_length]
  unfold nmE at h
  split at h
  ·split at h
   ·cases h
   ·omega
  ·cases h
 ·rw [if_neg h]; exact Nat.zero_le _
theorem wqL_nm {f : Flds} {p : List UInt8 × List UInt8} (h : p ∈ wqL f) : p.1.length ≤ 64:=by
 unfold wqL can at h
 obtain ⟨q,hq,rfl⟩:=List.mem_map.1 h
 obtain ⟨r,-,rfl⟩:=List.mem_map.1 hq
 unfold rep
 split
 ·show hostN.length ≤ 64
  decide
 ·exact nmV_len r.1
def Fw (f : Flds) : Prop:=f.length ≤ 1000 ∧ ∀ p ∈ f,p.1.length ≤ 1000 ∧ p.2.length ≤ 1000000
structure WL (l : List Msg) (zs ys : List UInt8) (r1 : C × List Ev) (f : Int × FS) (r2 : C × List Ev) : Prop where
 e1 : r1.1.err = 0
 g1 : gathered r1.2 = (wants l).map mRq
 d1 : ∀ e ∈ r1.2,e.kind = 2 → e.data ≠ []
 n1 : r1.2.length ≤ 600
 s1 : dsum r1.2 ≤ 100000
 q1 : ∀ e ∈ r1.2,EvQ e
 f0 : f.1 = 0
 fl : f.2.out.length ≤ 700000
 e2 : r2.1.err = 0
 g2 : gathered r2.2 = (wants l).map mRq
 d2 : ∀ e ∈ r2.2,e.kind = 2 → e.data ≠ []
 n2 : r2.2.length ≤ 1000
 s2 : dsum r2.2 ≤ 700000
 al : (allB l).length ≤ 88000
 fw : ∀ M ∈ wants l,Fw (wqL (mf M))
theorem wire_all (l : List Msg) (hl : l.length ≤ 8) (hb : ∀ M ∈ l,M.body.length ≤ 300) (zs ys : List UInt8) (hz : zs.length ≤ 200) (hy : ys.length ≤ 200) :
  WL l zs ys (feed (new false []) (cuts (allB l) zs)) (fmt fs0 (feed (new false []) (cuts (allB l) zs)).2) (feed (new false []) (cuts (fmt fs0 (feed (new false []) (cuts (allB l) zs)).2).2.out ys)):=by
 obtain ⟨a,b,c,d,e,f,g,h⟩:=wire_law l hl hb zs ys hz
 have hQ:=feed_Q (cuts (allB l) zs) (by rw [cuts_flat]; omega)
 have e0 : (new false []).buf.length = 0:=rfl
 have m0 : (new false []).many = 0:=rfl
 have hs1:=feed_dsum' (cuts (allB l) zs) (new false []); rw [cuts_flat,e0] at hs1
 have hs2:=feed_dsum' (cuts (fmt fs0 (feed (new false []) (cuts (allB l) zs)).2).2.out ys) (new false []); rw [cuts_flat,e0] at hs2
 have hn2:=feed_evs (cuts (fmt fs0 (feed (new false []) (cuts (allB l) zs)).2).2.out ys) (new false []); rw [m0] at hn2
 have hc2:=cuts_len ys (fmt fs0 (feed (new false []) (cuts (allB l) zs)).2).2.out; refine ⟨a,b,(feed_G _ _ new_iv rfl rfl a).1.ne,g,by omega,hQ,c,d,e,f,(feed_G _ _ new_iv rfl rfl e).1.ne,by omega,by omega,h,fun M hM => ?_⟩
 have h1:=gathered_fl (P:=Fr.Few) (feed (new false []) (cuts (allB l) zs)).2 [] (fun r hr => by cases hr) (fun e he hk => (hQ e he).rf); have h2 : mRq M ∈ gathered (feed (new false []) (cuts (allB l) zs)).2:=by rw [b]; exact List.mem_map.2 ⟨M,hM,rfl⟩
 have h3 : Fr.Few (wqL (mf M)):=h1 _ h2
 exact ⟨by have:=h3.len; omega,fun p hp => ⟨by have:=wqL_nm hp; omega,by have:=(h3.short p hp).2; omega⟩⟩
end Cn
end Go.Proofs.YtjffffpfejmoiaaGreatDoor
namespace Go.Proofs.YtjffffpfejmoiaaGreatDoor
open Go.ChangeShapes Go.WideShapes Go.RowKit Syn Hd Fr
def bytesW : Value → List UInt8
 | .string s => bs s
 | _ => []
theorem pairsF_cells {H : Type} {enc : TypeId × Value → H} {W : World} {fuel : Nat} {v : Value} {x : DataW H × List MemPlace}
  (hf : DataW.trod enc Tryz.prog W 0 (fun _ => true) true fuel 28 [v] = some x) (hw : ∀ n ∈ x.1.weights Tryz.prog 28,n ≤ reachBytes) :
  ∃ l : List (List UInt8 × List UInt8),Rd W 2 v l.length (prs l) ∧ (∀ p ∈ l,p.1.length ≤ 140737488355328 ∧ p.2.length ≤ 140737488355328) ∧ l.length ≤ 4398046511104:=by
 rcases Go.Deep.open_slice_pairs Tryz.underlying28 Tryz.underlying26 (by kernel_rfl) rfl rfl (by kernel_rfl) (by kernel_rfl) hf with ⟨hcs,_⟩ | ⟨a,LEN,c,m,fu,V0,V1,D0,D1,P0,P1,hcs,_,hl,hm,hmm,hx,hcell⟩
 ·obtain rfl : v = .slice none 0 0:=by simpa using hcs
  exact ⟨[],Rd.nil W 2,by simp,by simp⟩
 ·obtain rfl : v = .slice (some a) LEN c:=by simpa using hcs
  have hnm : LEN ≤ m:=by rw [hmm]; simp; omega
  have each : ∀ i,i < LEN → ∃ x y : ByteArray,V0 i = .string x ∧ V1 i = .string y ∧ D0 i = .lit (.string x.data.toList) ∧ D1 i = .lit (.string y.data.toList):=fun i hi => by
   obtain ⟨-,-,t0,t1⟩:=hcell i (by omega)
   obtain ⟨x,hx1,hx2,-⟩:=DataW.trod_string Tryz.underlying9 t0
   obtain ⟨y,hy1,hy2,-⟩:=DataW.trod_string Tryz.underlying9 t1
   simp only [Prod.mk.injEq] at hx2 hy2
   exact ⟨x,y,by simpa using hx1,by simpa using hy1,hx2.1,hy2.1⟩
  have hd : x.1 = .slice ((List.range LEN).map fun i => .agg [D0 i,D1 i]) ((List.range (m - LEN)).map fun j => .agg [D0 (LEN + j),D1 (LEN + j)]):=congrArg Prod.fst hx
  rw [hd] at hw
  have hlen : ((List.range LEN).map fun i => (bytesW (V0 i),bytesW (V1 i))).length = LEN:=by simp
  refine ⟨(List.range LEN).map fun i => (bytesW (V0 i),bytesW (V1 i)),?_,?_,?_⟩
  ·rw [hlen]
   refine ⟨_,_,rfl,hl,by rw [prs_length,hlen],fun hn => ?_⟩
   have ha : a = ⟨a.block,a.off,none⟩:=by
    have h0:=(hcell 0 (by omega)).1; have : a.add (0 * 2) = a:=by unfold Addr.add; simp
    rw [this] at h0
    exact cell_plain h0
   refine ⟨a.block,a.off,congrArg some ha,cell_lt (a:=a.add (0 * 2)) (hcell 0 (by omega)).1 |> fun h => by simpa [Addr.add] using h,fun j u hu => ?_⟩
   have hj : j / 2 < LEN:=by
    rcases Nat.lt_or_ge (j / 2) LEN with h | h
    ·exact h
    ·rw [List.getElem?_eq_none (by rw [prs_length,hlen]; omega)] at hu; cases hu
   have hj2 : j / 2 < ((List.range LEN).map fun i => (bytesW (V0 i),bytesW (V1 i))).length:=by rw [hlen]; exact hj
   obtain ⟨x,y,e0,e1,-,-⟩:=each (j / 2) hj
   obtain ⟨c0,c1,-,-⟩:=hcell (j / 2) (by omega)
   rw [ha,add_flat] at c0 c1
   rcases Nat.mod_two_eq_zero_or_one j with hr | hr
   ·have ej : j = j / 2 * 2:=by omega
    rw [ej,prs_at0 hj2] at hu
    simp only [List.getElem_map,List.getElem_range] at hu
    rw [ej,c0,← hu,e0]
    show some (Value.string x) = some (.string (str (bs x)))
    rw [str_bs]
   ·have ej : j = j / 2 * 2 + 1:=by omega
    rw [ej,prs_at1 hj2] at hu
    simp only [List.getElem_map,List.getElem_range] at hu
    rw [ej,c1,← hu,e1]
    show some (Value.string y) = some (.string (str (bs y)))
    rw [str_bs]
  ·intro p hp
   rw [List.mem_map] at hp
   obtain ⟨i,hi,rfl⟩:=hp
   rw [List.mem_range] at hi
   obtain ⟨x,y,e0,e1,f0,f1⟩:=each i hi
   have hmem : DataW.agg (H:=H) [D0 i,D1 i] ∈ (List.range LEN).map fun i => DataW.agg [D0 i,D1 i]:=List.mem_map.2 ⟨i,List.mem_range.2 hi,rfl⟩
   have hwa : DataW.weights Tryz.prog 26 (DataW.agg (H:=H) [D0 i,D1 i]) = [x.data.toList.length,y.data.toList.length]:=by
    rw [f0,f1]; simp [DataW.weights,Tryz.underlying26,DataW.weightsEach]
   have hin : ∀ n,n ∈ [x.data.toList.length,y.data.toList.length] → n ≤ reachBytes:=fun n hn => by
    refine hw n ?_
    simp only [DataW.weights,Tryz.underlying28,List.mem_cons,List.mem_append]
    exact .inr (.inl (weights_all hmem (by rw [hwa]; exact hn)))
   have r1:=hin x.data.toList.length (by simp); have r2:=hin y.data.toList.length (by simp); have hre : reachBytes ≤ 140737488355328:=by decide
   show (bytesW (V0 i)).length ≤ _ ∧ (bytesW (V1 i)).length ≤ _
   rw [e0,e1]
   exact ⟨Nat.le_trans r1 hre,Nat.le_trans r2 hre⟩
  ·rw [hlen]
   have hh:=hw ((((List.range LEN).map fun i => DataW.agg (H:=H) [D0 i,D1 i]).length + ((List.range (m - LEN)).map fun j => DataW.agg (H:=H) [D0 (LEN + j),D1 (LEN + j)]).length) * Tryz.prog.bytesOf 26) (by simp only [DataW.weights,Tryz.underlying28,List.mem_cons,true_or]); rw [show Tryz.prog.bytesOf 26 = 32 from by kernel_rfl] at hh
   simp only [List.length_map,List.length_range] at hh
   have hre : reachBytes ≤ 140737488355328:=by decide
   omega
namespace Cn
def MC (w : World) (b o : Nat) (M : Msg) : Prop:=∃ Af cf Ab cb As cs,w.cell? ⟨b,o,none⟩ = some (.string (str M.m)) ∧ w.cell? ⟨b,o + 1,none⟩ = some (.string (str M.t)) ∧ w.cell? ⟨b,o + 2,none⟩ = some (.slice Af M.fl.length cf) ∧ w.cell? ⟨b,o + 3,none⟩ = some (.slice Ab M.body.length cb) ∧
 w.cell? ⟨b,o + 4,none⟩ = some (.bool M.ch) ∧ w.cell? ⟨b,o + 5,none⟩ = some (.slice As M.sz.length cs) ∧ Rd w 2 (.slice Af M.fl.length cf) M.fl.length (prs M.fl) ∧ Rd w 1 (.slice Ab M.body.length cb) M.body.length (u8s M.body) ∧ Rd w 1 (.slice As M.sz.length cs) M.sz.length (u8s M.sz)
theorem MC.below {w w' : World} {b o : Nat} {M : Msg} (h : MC w b o M) (hb : Below w.heap.size w w') (hlt : b < w.heap.size) : MC w' b o M:=by
 obtain ⟨Af,cf,Ab,cb,As,cs,h0,h1,h2,h3,h4,h5,r1,r2,r3⟩:=h
 exact ⟨Af,cf,Ab,cb,As,cs,(hb.cell (p:=⟨b,_,none⟩) hlt).trans h0,(hb.cell (p:=⟨b,_,none⟩) hlt).trans h1,(hb.cell (p:=⟨b,_,none⟩) hlt).trans h2,(hb.cell (p:=⟨b,_,none⟩) hlt).trans h3,(hb.cell (p:=⟨b,_,none⟩) hlt).trans h4,(hb.cell (p:=⟨b,_,none⟩) hlt).trans h5,r1.below hb,r2.below hb,r3.below hb⟩
def MsC (w : World) (v : Value) (l : List Msg) : Prop:=∃ A cap,v = .slice A l.length cap ∧ l.length ≤ cap ∧ (0 < l.length → ∃ b o,A = some ⟨b,o,none⟩ ∧ b < w.heap.size ∧ ∀ i (h : i < l.length),MC w b (o + i * 6) l[i])
theorem MsC.below {w w' : World} {v : Value} {l : List Msg} (h : MsC w v l) (hb : Below w.heap.size w w') : MsC w' v l:=by
 obtain ⟨A,cap,e,hc,h⟩:=h
 refine ⟨A,cap,e,hc,fun hn => ?_⟩
 obtain ⟨b,o,e1,hlt,hx⟩:=h hn
 exact ⟨b,o,e1,Nat.lt_of_lt_of_le hlt hb.size,fun i hi => (hx i hi).below hb hlt⟩
def MB (M : Msg) : Prop:=M.m.length ≤ 140737488355328 ∧ M.t.length ≤ 140737488355328 ∧ (∀ p ∈ M.fl,p.1.length ≤ 140737488355328 ∧ p.2.length ≤ 140737488355328) ∧ M.fl.length ≤ 4398046511104 ∧ M.body.length ≤ 140737488355328 ∧ M.sz.length ≤ 140737488355328
end Cn
set_option maxRecDepth 100000 in
theorem msg_at {H : Type} {enc : TypeId × Value → H} {W : World} {fuel : Nat} {cs : List Value} {x : DataW H × List MemPlace} {a : Addr}
  (hf : DataW.trod enc Tryz.prog W 0 (fun _ => true) true fuel 46 cs = some x) (hw : ∀ n ∈ x.1.weights Tryz.prog 46,n ≤ reachBytes)
  (hc : ∀ j (h : j < cs.length),W.cell? (a.add j) = some cs[j]) : ∃ M : Cn.Msg,a = ⟨a.block,a.off,none⟩ ∧ Cn.MC W a.block a.off M ∧ Cn.MB M:=by
 obtain ⟨xs,n,_,rfl,hl,hlen,hF⟩:=DataW.trod_struct Tryz.underlying46 hf
 have hs : cs.length = 6:=hl.trans (by kernel_rfl)
 obtain ⟨c0,c1,c2,c3,c4,c5,rfl⟩ : ∃ c0 c1 c2 c3 c4 c5,cs = [c0,c1,c2,c3,c4,c5]:=by
  match cs,hs with
  | [a,b,c,d,e,f],_ => exact ⟨a,b,c,d,e,f,rfl⟩
 obtain ⟨y0,y1,y2,y3,y4,y5,rfl⟩ : ∃ y0 y1 y2 y3 y4 y5,xs = [y0,y1,y2,y3,y4,y5]:=by
  match xs,hlen with
  | [a,b,c,d,e,f],_ => exact ⟨a,b,c,d,e,f,rfl⟩
 have h0 : DataW.trod enc Tryz.prog W 0 (fun _ => true) true n 9 [c0] = some y0:=by simpa [show Tryz.prog.cellsOf 9 = 1 from by kernel_rfl] using hF 0 _ rfl
 have h1 : DataW.trod enc Tryz.prog W 0 (fun _ => true) true n 9 [c1] = some y1:=by simpa [show Tryz.prog.cellsOf 9 = 1 from by kernel_rfl] using hF 1 _ rfl
 have h2 : DataW.trod enc Tryz.prog W 0 (fun _ => true) true n 28 [c2] = some y2:=by simpa [show Tryz.prog.cellsOf 28 = 1 from by kernel_rfl] using hF 2 _ rfl
 have h3 : DataW.trod enc Tryz.prog W 0 (fun _ => true) true n 23 [c3] = some y3:=by simpa [show Tryz.prog.cellsOf 23 = 1 from by kernel_rfl] using hF 3 _ rfl
 have h4 : DataW.trod enc Tryz.prog W 0 (fun _ => true) true n 4 [c4] = some y4:=by simpa [show Tryz.prog.cellsOf 4 = 1 from by kernel_rfl] using hF 4 _ rfl
 have h5 : DataW.trod enc Tryz.prog W 0 (fun _ => true) true n 23 [c5] = some y5:=by simpa [show Tryz.prog.cellsOf 23 = 1 from by kernel_rfl] using hF 5 _ rfl
 have hwt : ∀ (j : Nat) t d,([9,9,28,23,4,23] : List TypeId)[j]? = some t → ([y0.1,y1.1,y2.1,y3.1,y4.1,y5.1] : List (DataW H))[j]? = some d → ∀ n ∈ d.weights Tryz.prog t,n ≤ reachBytes:=fun j t d ht hd n hn => hw n (by
  show n ∈ DataW.weights Tryz.prog 46 (.agg [y0.1,y1.1,y2.1,y3.1,y4.1,y5.1])
  simp only [DataW.weights,Tryz.underlying46]
  exact DataW.weights_mem_each (j:=j) ht hd n hn)
 obtain ⟨m,hm,hxm,-⟩:=DataW.trod_string Tryz.underlying9 h0
 obtain ⟨t,ht,hxt,-⟩:=DataW.trod_string Tryz.underlying9 h1
 obtain rfl : c0 = .string m:=by simpa using hm
 obtain rfl : c1 = .string t:=by simpa using ht
 obtain ⟨ch,hch,-⟩:=DataW.trod_bool Tryz.underlying4 h4
 obtain rfl : c4 = .bool ch:=by simpa using hch
 obtain ⟨L,R2,B2,N2⟩:=pairsF_cells h2 (hwt 2 _ _ rfl rfl)
 obtain ⟨body,R3,N3⟩:=bytes_at h3 (hwt 3 _ _ rfl rfl)
 obtain ⟨sz,R5,N5⟩:=bytes_at h5 (hwt 5 _ _ rfl rfl)
 have hre : reachBytes ≤ 140737488355328:=by decide
 have hmw:=hwt 0 _ _ rfl rfl m.data.toList.length (by rw [congrArg Prod.fst hxm]; simp [DataW.weights])
 have htw:=hwt 1 _ _ rfl rfl t.data.toList.length (by rw [congrArg Prod.fst hxt]; simp [DataW.weights])
 obtain ⟨Af,cf,e2,-⟩:=id R2; obtain ⟨Ab,cb,e3,-⟩:=id R3; obtain ⟨As,cz,e5,-⟩:=id R5; subst e2 e3 e5
 have ha : a = ⟨a.block,a.off,none⟩:=by
  have h0:=hc 0 (show 0 < 6 by decide); have : a.add 0 = a:=by unfold Addr.add; simp
  rw [this] at h0
  exact cell_plain h0
 have hcc : ∀ j (h : j < 6),W.cell? ⟨a.block,a.off + j,none⟩ = some ([.string m,.string t,.slice Af L.length cf,.slice Ab body.length cb,.bool ch,.slice As sz.length cz] : List Value)[j]:=fun j h => by
  have h1:=hc j h; rw [ha,add_flat] at h1
  exact h1
 refine ⟨⟨bs m,bs t,L,body,ch,sz⟩,ha,⟨Af,cf,Ab,cb,As,cz,by rw [str_bs]; exact hcc 0 (by decide),by rw [str_bs]; exact hcc 1 (by decide),hcc 2 (by decide),hcc 3 (by decide),hcc 4 (by decide),hcc 5 (by decide),R2,R3,R5⟩,?_⟩
 exact ⟨Nat.le_trans hmw hre,Nat.le_trans htw hre,B2,N2,N3,N5⟩
set_option maxRecDepth 100000 in
theorem msgs_in {H : Type} {enc : TypeId × Value → H} {W : World} {base : Nat} {v : Value} {d : DataW H} {pl : List MemPlace}
  (hv : Value.okWide Tryz.prog W .any base 44 v) (h : DataW.Trod enc Tryz.prog W 0 (fun _ => true) true 44 v d pl) (hw : ∀ n ∈ d.weights Tryz.prog 44,n ≤ reachBytes) :
  ∃ l : List Cn.Msg,Cn.MsC W v l ∧ (∀ M ∈ l,Cn.MB M):=by
 obtain ⟨A,len,cap,rfl⟩:=okWide_slice Tryz.underlying44 hv
 obtain ⟨fuel,hf⟩:=h
 rcases Go.Deep.open_slice Tryz.underlying44 hf with ⟨hcs,_⟩ | ⟨a,LEN,c,m,n,D,Pl,hcs,_,hl,hm,hmm,hx,hcell⟩
 ·simp [Value.cells] at hcs
  obtain ⟨rfl,rfl,rfl⟩:=hcs
  exact ⟨[],⟨none,0,rfl,Nat.le_refl _,fun h => by simp at h⟩,by simp⟩
 ·simp [Value.cells] at hcs
  obtain ⟨rfl,rfl,rfl⟩:=hcs
  have hnm : len ≤ m:=by rw [hmm]; simp; omega
  have hC : Tryz.prog.cellsOf 46 = 6:=by kernel_rfl
  rw [hC] at hcell
  have hd : d = .slice ((List.range len).map D) ((List.range (m - len)).map fun j => D (len + j)):=congrArg Prod.fst hx
  rw [hd] at hw
  have each : ∀ i,i < len → ∃ M : Cn.Msg,a.add (i * 6) = ⟨(a.add (i * 6)).block,(a.add (i * 6)).off,none⟩ ∧ Cn.MC W (a.add (i * 6)).block (a.add (i * 6)).off M ∧ Cn.MB M:=fun i hi => by
   obtain ⟨cs',hc1,ht⟩:=hcell i (by omega)
   obtain ⟨-,hlen,hat⟩:=World.cells?_some hc1
   have hmem : D i ∈ (List.range len).map D:=List.mem_map.2 ⟨i,List.mem_range.2 hi,rfl⟩
   refine msg_at ht (fun n hn => hw n (by
     simp only [DataW.weights,Tryz.underlying44,List.mem_cons,List.mem_append]
     exact .inr (.inl (weights_all hmem hn)))) (fun j hj => ?_)
   have h0:=hat j (by omega); rw [h0]; simp [List.getElem?_eq_getElem hj]
  have hb:=fun (i : Fin len) => each i.1 i.2
  obtain ⟨V,hV⟩:=Classical.axiomOfChoice hb
  have hlen : (List.ofFn V).length = len:=by simp
  refine ⟨List.ofFn V,⟨some a,cap,by rw [hlen],by rw [hlen]; exact hl,fun hn => ?_⟩,?_⟩
  ·have ha : a = ⟨a.block,a.off,none⟩:=by
    have h0:=(hV ⟨0,by omega⟩).1; have : a.add (0 * 6) = a:=by unfold Addr.add; simp
    simp only at h0
    rw [this] at h0
    exact h0
   have hadd : ∀ i,a.add (i * 6) = ⟨a.block,a.off + i * 6,none⟩:=fun i => by rw [ha,add_flat]
   have key : ∀ i (hi : i < len),Cn.MC W a.block (a.off + i * 6) (V ⟨i,hi⟩):=fun i hi => by
    have h:=(hV ⟨i,hi⟩).2.1; simp only at h
    rw [hadd i] at h
    exact h
   refine ⟨a.block,a.off,congrArg some ha,?_,fun i hi => ?_⟩
   ·obtain ⟨Af,cf,Ab,cb,As,cs,h0,-⟩:=key 0 (by omega)
    exact cell_lt (a:=⟨a.block,a.off + 0 * 6,none⟩) h0
   ·have hi' : i < len:=by omega
    have e : (List.ofFn V)[i] = V ⟨i,hi'⟩:=by simp
    rw [e]
    exact key i hi'
  ·intro M hM
   obtain ⟨i,rfl⟩:=(List.mem_ofFn).1 hM
   exact (hV i).2.2
end Go.Proofs.YtjffffpfejmoiaaGreatDoor
namespace Go.Proofs.YtjffffpfejmoiaaGreatDoor
open Go.RowKit Syn Fr
set_option maxRecDepth 100000 in
set_option maxHeartbeats 4000000 in
theorem size_some (L : List (List UInt8 × List UInt8)) (v : Value) (w : World) (hR : Rd w 2 v L.length (prs L)) (hl : L.length ≤ 140737488355328) :
  Calls Tryz.prog 12 #[v] w fun e w' => ∃ z : Int,e = .returned (.int .i64 z) ∧ Below w.heap.size w w':=by
 obtain ⟨A,cap,rfl,hcap,-,-⟩:=id hR; replace hR:=Hj hR; go_enter Tryz.func12,Tryz.ntmps12
 go_wp2; go_loopw [3,8] (fun t i wr => ∃ (k : Nat) (z : Int),i = .int .i64 (k : Int) ∧ k ≤ L.length ∧ t = .int .i64 z ∧ Hid (Below w.heap.size w wr)) (fun _ i _ => L.length - (intOf i).toNat)
 case atStart => exact ⟨0,0,rfl,Nat.zero_le _,rfl,Hj (Below.refl _ _)⟩
 case round =>
  obtain ⟨k,z,rfl,hk,rfl,hB⟩:=hrel
  have hBw:=hB.out.size; by_cases hlt : k < L.length
  ·obtain ⟨A',cap',e',-,-,r'⟩:=hR.out.below hB.out
   cases e'; obtain ⟨b1,o1,rfl,_,x1⟩:=r' (by omega)
   have d1 : wr.cell? ⟨b1,o1 + k * 2,none⟩ = some (.string (str L[k].1)):=x1 _ _ (prs_at0 hlt)
   have d2 : wr.cell? ⟨b1,o1 + k * 2 + 1,none⟩ = some (.string (str L[k].2)):=x1 _ _ (prs_at1 hlt)
   clear x1 r'; generalize str L[k].1 = s1 at *; generalize str L[k].2 = s2 at *; have hB1:=Hj (hB.out.alloc hBw (.cells #[.string s1,.string s2] 26)); go_wp2; go_roundw
   case rel => exact ⟨k + 1,_,by go_num,by omega,rfl,hB1⟩
   case measure => simp [intOf]; omega
  ·obtain rfl : k = L.length:=by omega
   go_wp2; go_ret; exact ⟨z,rfl,hB.out⟩
set_option maxRecDepth 100000 in
set_option maxHeartbeats 4000000 in
theorem equal_yes (l : List (List UInt8)) (A1 A2 : Option Addr) (c1 c2 : Nat) (w : World) (h1 : Rd w 1 (.slice A1 l.length c1) l.length (strs l)) (h2 : Rd w 1 (.slice A2 l.length c2) l.length (strs l)) (hl : l.length ≤ 1000000) :
  Calls Tryz.prog 40 #[.slice A1 l.length c1,.slice A2 l.length c2] w fun e w' => e = .returned (.bool true) ∧ ∃ n,w' = w.drewN n:=by
 obtain ⟨A',c',e',hc1,-,r1⟩:=h1
 cases e'; obtain ⟨A',c',e',hc2,-,r2⟩:=h2
 cases e'; have hq0 : ((l.length : Int) != (l.length : Int)) = false:=bne_self_eq_false _
 go_enter Tryz.func40,Tryz.ntmps40
 go_wp2; go_loopw [13] (fun i wr => ∃ k m : Nat,i = .int .i64 (k : Int) ∧ k ≤ l.length ∧ wr = w.drewN m) (fun i _ => l.length - (intOf i).toNat)
 case atStart => exact ⟨0,0,rfl,Nat.zero_le _,rfl⟩
 case round =>
  obtain ⟨k,m,rfl,hk,hw⟩:=hrel
  by_cases hlt : k < l.length
  ·obtain ⟨b1,o1,rfl,_,x1⟩:=r1 (by omega)
   obtain ⟨b2,o2,rfl,_,x2⟩:=r2 (by omega)
   have d1 : wr.cell? ⟨b1,o1 + k,none⟩ = some (.string (str l[k])):=by rw [hw]; exact x1 _ _ (strs_at hlt)
   have d2 : wr.cell? ⟨b2,o2 + k,none⟩ = some (.string (str l[k])):=by rw [hw]; exact x2 _ _ (strs_at hlt)
   have Hw:=Hj hw; have q1 : ((str l[k]).toList != (str l[k]).toList) = false:=bne_self_eq_false _
   clear hw x1 x2; generalize str l[k] = s1 at *; go_wp2_with fail
   go_quiet (fail)
   go_wp2; go_roundw
   case rel => exact ⟨k + 1,m + nq,by go_num,by omega,by rw [Hw.out,World.drewN_drewN]⟩
   case measure => simp [intOf]; omega
  ·obtain rfl : k = l.length:=by omega
   go_wp2; go_ret; exact ⟨rfl,m,rfl⟩
set_option maxRecDepth 100000 in
set_option maxHeartbeats 8000000 in
theorem same_any (L : List (List UInt8 × List UInt8)) (A1 A2 : Option Addr) (c1 c2 : Nat) (w : World) (h1 : Rd w 2 (.slice A1 L.length c1) L.length (prs L)) (h2 : Rd w 2 (.slice A2 L.length c2) L.length (prs L)) (hs : ∀ p ∈ L,p.1.length ≤ 1000 ∧ p.2.length ≤ 1000000) (hl : L.length ≤ 1000) :
  Calls Tryz.prog 17 #[.slice A1 L.length c1,.slice A2 L.length c2] w fun e w' => e = .returned (.bool true) ∧ Below w.heap.size w w':=by
 have hq0 : ((L.length : Int) != (L.length : Int)) = false:=bne_self_eq_false _
 have hAl:=Hj (fun (nm : List UInt8) (hn : nm.length ≤ 1000) (A : Option Addr) (c : Nat) w' (h : Rd w' 2 (.slice A L.length c) L.length (prs L)) => all_any L nm (.slice A L.length c) w' (fun p hp => by have:=hs p hp; omega) hl hn h)
 have h10:=Hj h1; have h20:=Hj h2; obtain ⟨A',c',e',hc1,-,-⟩:=h1
 cases e'; obtain ⟨A',c',e',hc2,-,-⟩:=h2
 cases e'; replace hs:=Hj hs; go_enter Tryz.func17,Tryz.ntmps17
 go_wp2; go_loopw [14] (fun i wr => ∃ k : Nat,i = .int .i64 (k : Int) ∧ k ≤ L.length ∧ Hid (Below w.heap.size w wr)) (fun i _ => L.length - (intOf i).toNat)
 case atStart => exact ⟨0,rfl,Nat.zero_le _,Hj (Below.refl _ _)⟩
 case round =>
  obtain ⟨k,rfl,hk,hB⟩:=hrel
  have hBw:=hB.out.size; by_cases hlt : k < L.length
  ·obtain ⟨A',cap',e',-,-,r'⟩:=h10.out.below hB.out
   cases e'; obtain ⟨b1,o1,rfl,_,x1⟩:=r' (by omega)
   have d1 : wr.cell? ⟨b1,o1 + k * 2,none⟩ = some (.string (str L[k].1)):=x1 _ _ (prs_at0 hlt)
   have d2 : wr.cell? ⟨b1,o1 + k * 2 + 1,none⟩ = some (.string (str L[k].2)):=x1 _ _ (prs_at1 hlt)
   have hsk:=hs.out L[k] (List.getElem_mem hlt); clear x1 r'; generalize L[k] = p at *; obtain ⟨nm,vl⟩:=p
   simp only at d1 d2 hsk
   have hAn:=Hj (hAl.out nm hsk.1); go_wp2_with fail
   have hX:=Blk.new wr 26 #[.string (str nm),.string (str vl)]; have hbx:=(Below.refl wr.heap.size wr).alloc (Nat.le_refl _) (.cells #[.string (str nm),.string (str vl)] 26); obtain ⟨g,hg⟩ : ∃ g,wr.heap.size = g:=⟨_,rfl⟩
   rw [hg] at hX ⊢
   generalize wr.alloc (.cells #[.string (str nm),.string (str vl)] 26) = w1 at *; clear hg; have hB1:=Hj (hB.out.trans (hbx.mono hBw)); have c0 : w1.cell? ⟨g,0,none⟩ = some (.string (str nm)):=hX.cell 0
   clear hbx d1 d2; have hS : ∀ w',Below w1.heap.size w1 w' → Below w1.heap.size w1 w' ∧ w'.cell? ⟨g,0,none⟩ = some (.string (str nm)):=fun w' hb => ⟨hb,(hX.below hb).cell 0⟩
   have h1l:=Hj (fun w' (hb : Below w1.heap.size w1 w') => (h10.out.below hB1.out).below hb); have h2l:=Hj (fun w' (hb : Below w1.heap.size w1 w') => (h20.out.below hB1.out).below hb); have hVl : (allV L nm).length ≤ 1000000:=by have h:=Fr.allV_length L nm; have h2 : (allV L nm).length ≤ L.length:=h; omega
   have hst:=hS w1 (Below.refl _ _); replace hS:=Hj hS; clear hX; generalize allV L nm = V at *; go_region_held3 (fun w' => Below w1.heap.size w1 w' ∧ w'.cell? ⟨g,0,none⟩ = some (.string (str nm)))
    (first | exact hst | assumption | exact hS.out _ (Below.refl _ _).drew | exact hS.out _ hb5 | exact hS.out _ hb5.drew | exact hS.out _ hb7 | exact hS.out _ hb7.drew | exact hS.out _ (below_drewN hb7 _) | exact hS.out _ (below_drewN hb7 _).drew | exact hS.out _ (below_drewN hb7.drew _))
    (first
     | (go_at_call 41; (with_reducible refine Calls.mono (hAn.out (some ⟨b1,o1,none⟩) c1 _ (h1l.out _ (And.left (by assumption)))) ?_); rintro e w5 ⟨oA,rfl,hoA,hbA⟩; have hrA:=Rd.own hoA; (first | have hb5 : Below w1.heap.size w1 w5:=hbA | have hb5 : Below w1.heap.size w1 w5:=below_of_drew hbA); obtain ⟨AA,cA,rfl,-,-,-⟩:=id hrA)
     | (go_at_call 41; (with_reducible refine Calls.mono (hAn.out A2 c2 _ (h2l.out _ (And.left (by assumption)))) ?_); rintro e w7 ⟨oB,rfl,hoB,hbB⟩; have hrB:=Rd.own hoB; (first | have hrA7:=hrA.below hbB | have hrA7:=hrA.below (below_of_drew hbB)); (first | have hb7 : Below w1.heap.size w1 w7:=hb5.trans (hbB.mono hb5.size) | have hb7 : Below w1.heap.size w1 w7:=hb5.trans ((below_of_drew hbB).mono hb5.size)); obtain ⟨AB,cB,rfl,-,-,-⟩:=id hrB)
     | (go_at_call 40; refine (equal_yes V _ _ _ _ _ (by first | exact hrA7 | exact hrA7.drewN 1) (by first | exact hrB | exact hrB.drewN 1) hVl).mono ?_; rintro e w11 ⟨rfl,n11,rfl⟩))
   all_goals
    have hBz:=Hj (hB1.out.trans ((below_drewN hb7 n11).mono hB1.out.size)); go_wp2; go_roundw
    case rel => exact ⟨k + 1,by go_num,by omega,hBz⟩
    case measure => simp [intOf]; omega
  ·obtain rfl : k = L.length:=by omega
   go_wp2; go_ret; exact ⟨rfl,hB.out⟩
end Go.Proofs.YtjffffpfejmoiaaGreatDoor
