import Derived.Test.YtjffffpfejmoiaaGreatDoorGLow
import Derived.Deep.SlicePairs
import Derived.Deep.Strs
import Derived.SizedLaws
import Derived.ShutString
import Derived.ChangeOld
import Derived.Below
namespace Go.Proofs.YtjffffpfejmoiaaGreatDoor
open Go.ChangeShapes Go.WideShapes Go.RowKit
theorem cell_plain {w : World} {a : Addr} {v : Value} (h : w.cell? a = some v) : a = ⟨a.block,a.off,none⟩:=by
 obtain ⟨b,o,s⟩:=a
 cases s with
 | none => rfl
 | some x => unfold World.cell? at h; split at h <;> simp at h
theorem add_flat (b o i : Nat) : (⟨b,o,none⟩ : Addr).add i = ⟨b,o + i,none⟩:=by unfold Addr.add; split <;> simp_all
theorem weights_all {H : Type} {P : Program} {e : TypeId} {d : DataW H} {n : Nat} : ∀ {l : List (DataW H)},d ∈ l → n ∈ d.weights P e → n ∈ DataW.weightsAll P e l
 | y :: l,h,hn => by
  show n ∈ y.weights P e ++ DataW.weightsAll P e l
  rcases List.mem_cons.1 h with h | h
  ·subst h; exact List.mem_append_left _ hn
  ·exact List.mem_append_right _ (weights_all h hn)
theorem u8s_of (zs : List Int) (h : ∀ z ∈ zs,0 ≤ z ∧ z ≤ 255) : ∀ j : Nat,(u8s (zs.map fun z => UInt8.ofNat z.toNat))[j]? = (zs.map fun z => Value.int .u8 z)[j]?:=by
 intro j; unfold u8s
 rw [List.map_map,List.getElem?_map,List.getElem?_map]
 cases hz : zs[j]? with
 | none => rfl
 | some z =>
  have hm:=h z (List.mem_of_getElem? hz); show some (Value.int .u8 ((UInt8.ofNat z.toNat).toNat : Int)) = some (Value.int .u8 z)
  have : (UInt8.ofNat z.toNat).toNat = z.toNat:=UInt8.toNat_ofNat_of_lt' (by show z.toNat < 256; omega)
  rw [this]
  congr 2
  omega
set_option maxRecDepth 100000 in
theorem bytes_at {H : Type} {enc : TypeId × Value → H} {W : World} {fuel : Nat} {v : Value} {x : DataW H × List MemPlace}
  (hf : DataW.trod enc Tryz.prog W 0 (fun _ => true) true fuel 23 [v] = some x) (hw : ∀ n ∈ x.1.weights Tryz.prog 23,n ≤ reachBytes) :
  ∃ l : List UInt8,Rd W 1 v l.length (u8s l) ∧ l.length ≤ 140737488355328:=by
 rcases open_ints Tryz.underlying23 Tryz.underlying5 (by kernel_rfl) hf with ⟨hcs,_⟩ | ⟨a,len,c,zs,hcs,_,hl,hm,hz,hx,hcell,hwf⟩
 ·obtain rfl : v = .slice none 0 0:=by simpa using hcs
  exact ⟨[],Rd.nil W 1,by simp⟩
 ·obtain rfl : v = .slice (some a) len c:=by simpa using hcs
  have hnm : len ≤ zs.length:=by rw [hz]; simp; omega
  have hd : x.1 = .slice (lits .u8 (zs.take len)) (lits .u8 (zs.drop len)):=congrArg Prod.fst hx
  rw [hd] at hw
  have hL : (zs.take len).length = len:=by rw [List.length_take]; omega
  have hb : ∀ z ∈ zs.take len,0 ≤ z ∧ z ≤ 255:=fun z hz' => Go.bounds_u8 (hwf z (List.mem_of_mem_take hz'))
  have hlen : ((zs.take len).map fun z => UInt8.ofNat z.toNat).length = len:=by rw [List.length_map,hL]
  refine ⟨(zs.take len).map fun z => UInt8.ofNat z.toNat,?_,?_⟩
  ·rw [hlen]
   refine ⟨_,_,rfl,hl,by rw [u8s_length,hlen,Nat.mul_one],fun hn => ?_⟩
   have ha : a = ⟨a.block,a.off,none⟩:=by
    have h0:=hcell 0 (by omega); have : a.add 0 = a:=by unfold Addr.add; simp
    rw [this] at h0
    exact cell_plain h0
   refine ⟨a.block,a.off,congrArg some ha,cell_lt (a:=a.add 0) (hcell 0 (by omega)) |> fun h => by simpa [Addr.add] using h,fun j u hu => ?_⟩
   have hj : j < len:=by
    rcases Nat.lt_or_ge j len with h | h
    ·exact h
    ·rw [List.getElem?_eq_none (by rw [u8s_length,hlen]; omega)] at hu; cases hu
   have h1:=hcell j (by omega); rw [ha,add_flat] at h1
   rw [h1]
   have h2:=u8s_of (zs.take len) hb j; rw [h2,List.getElem?_map,List.getElem?_eq_getElem (by omega)] at hu
   rw [← hu,List.getElem_take,List.getD_eq_getElem?_getD,List.getElem?_eq_getElem (by omega)]; rfl
  ·rw [hlen]
   have hh:=hw (((lits (H:=H) .u8 (zs.take len)).length + (lits (H:=H) .u8 (zs.drop len)).length) * Tryz.prog.bytesOf 5) (by simp only [DataW.weights,Tryz.underlying23,List.mem_cons]; first | exact .inl rfl | exact .inl trivial)
   have hby : Tryz.prog.bytesOf 5 = 1:=by kernel_rfl
   have hre : reachBytes ≤ 140737488355328:=by decide
   rw [hby] at hh
   have : (lits (H:=H) .u8 (zs.take len)).length = len:=by unfold lits; rw [List.length_map]; omega
   omega
set_option maxRecDepth 100000 in
theorem bytes8_in {H : Type} {enc : TypeId × Value → H} {W : World} {base : Nat} {v : Value} {d : DataW H} {ps : List MemPlace}
  (hv : Value.okWide Tryz.prog W .any base 23 v) (h : DataW.Trod enc Tryz.prog W 0 (fun _ => true) true 23 v d ps) (hw : ∀ n ∈ d.weights Tryz.prog 23,n ≤ reachBytes) :
  ∃ l : List UInt8,Rd W 1 v l.length (u8s l) ∧ l.length ≤ 140737488355328:=by
 obtain ⟨A,len,cap,rfl⟩:=okWide_slice Tryz.underlying23 hv
 obtain ⟨fuel,hf⟩:=h
 exact bytes_at (x:=(d,ps)) hf hw
def Parts (w : World) (v : Value) (ps : List (List UInt8)) : Prop :=
 ∃ A cap,v = .slice A ps.length cap ∧ ps.length ≤ cap ∧ (0 < ps.length → ∃ b o,A = some ⟨b,o,none⟩ ∧ b < w.heap.size ∧
  ∀ i (h : i < ps.length),∃ Ai ci,w.cell? ⟨b,o + i,none⟩ = some (.slice Ai ps[i].length ci) ∧ Rd w 1 (.slice Ai ps[i].length ci) ps[i].length (u8s ps[i]))
theorem Parts.below {w w' : World} {v : Value} {ps : List (List UInt8)} (h : Parts w v ps) (hb : Below w.heap.size w w') : Parts w' v ps:=by
 obtain ⟨A,cap,e,hc,h⟩:=h
 refine ⟨A,cap,e,hc,fun hn => ?_⟩
 obtain ⟨b,o,e1,hlt,hx⟩:=h hn
 refine ⟨b,o,e1,Nat.lt_of_lt_of_le hlt hb.size,fun i hi => ?_⟩
 obtain ⟨Ai,ci,h1,h2⟩:=hx i hi
 exact ⟨Ai,ci,by rw [hb.cell (p:=⟨b,o + i,none⟩) hlt]; exact h1,h2.below hb⟩
end Go.Proofs.YtjffffpfejmoiaaGreatDoor
