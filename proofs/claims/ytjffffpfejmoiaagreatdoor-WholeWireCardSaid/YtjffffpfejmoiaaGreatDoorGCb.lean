import Derived.Test.YtjffffpfejmoiaaGreatDoorGCk
import Derived.Test.YtjffffpfejmoiaaGreatDoorCIn
import Derived.Deep.RegionLaw
import Derived.Deep.DrawnRows
import Derived.Test.YtjffffpfejmoiaaGreatDoorGByt
import Derived.Shelf.Small.Wraps
import Derived.Shelf.Strings.Builder1
namespace Go.Proofs.YtjffffpfejmoiaaGreatDoor
open Go.RowKit Syn Ck
theorem flat_take {ps : List (List UInt8)} {k : Nat} (h : k < ps.length) : (ps.take (k + 1)).flatten = (ps.take k).flatten ++ ps[k]:=by
 rw [List.take_succ_eq_append_getElem h,List.flatten_append]; simp
theorem flat_take_le (ps : List (List UInt8)) (k : Nat) : (ps.take k).flatten.length ≤ ps.flatten.length:=by
 conv => rhs; rw [← List.take_append_drop k ps]
 rw [List.flatten_append,List.length_append]; omega
namespace Ck
end Ck
end Go.Proofs.YtjffffpfejmoiaaGreatDoor
namespace Go.Proofs.YtjffffpfejmoiaaGreatDoor
open Go.RowKit Syn Ck
namespace Ck
theorem Decv.below {w w' : World} {g : Nat} {F : Nat → Prop} {s : St} {ev : Value} (h : Decv w g F s ev) (hb : Below w.heap.size w w') : Decv w' g F s ev :=
 h.kp (G:=fun _ => False) (Kp.below (Kp.refl _ _) hb) (fun _ _ h => h)
structure CutI (W0 : World) (B5 ga gb : Nat) (Fa : Nat → Prop) (sa : St) (want : Value) (wl : List UInt8) (s : St) (out : List UInt8) (got : Value) (Fb : Nat → Prop) (w : World) : Prop where
 hgot : Own w B5 5 1 got out.length (u8s out)
 offg : Off Fb got
 db : Decv w gb Fb s (errV s.bad)
 da : Decv w ga Fa sa (errV sa.bad)
 apart : ∀ j,Fa j → ¬ Fb j
 faB : ∀ j,Fa j → j < B5
 hwant : Own w 0 5 1 want wl.length (u8s wl)
 wantB : ∀ j,want.ownBlock = some j → j < B5
 offw : Off Fb want
 old : ∀ j,Fb j → W0.heap.size ≤ j
 below : Below W0.heap.size W0 w
 size : B5 ≤ w.heap.size
 base : W0.heap.size ≤ B5
theorem CutI.write {W0 : World} {B5 ga gb : Nat} {Fa : Nat → Prop} {sa : St} {want : Value} {wl : List UInt8} {s : St} {out : List UInt8} {got : Value} {Fb : Nat → Prop} {w w' : World} {p : List UInt8} {e : Ending}
  (h : CutI W0 B5 ga gb Fa sa want wl s out got Fb w) (hw : WriteR w gb Fb s p e w') :
  ∃ vb Fb',e = .returned (.tuple #[vb,.int .i64 ((wr s p).2.2 : Int),errV (wr s p).1.bad]) ∧ Own w' w.heap.size 5 1 vb (wr s p).2.1.length (u8s (wr s p).2.1) ∧
   CutI W0 B5 ga gb Fa sa want wl (wr s p).1 out got Fb' w':=by
 obtain ⟨vb,F',h1,h2,h3,h4,h5,h6⟩:=hw
 refine ⟨vb,F',h1,h2,?_⟩
 have hsz:=h.size; have hbs:=h.below.size; refine ⟨h.hgot.kp h.offg h6,fun j hj hF => ?_,h4,h.da.kp h6 h.apart,fun j hj hF => ?_,h.faB,h.hwant.kp h.offw h6,h.wantB,fun j hj hF => ?_,fun j hF => ?_,h.below.trans (h6.toBelow hbs h.old),Nat.le_trans hsz h6.size,h.base⟩
 ·rcases h5 j hF with h7 | h7
  ·exact h.offg j hj h7
  ·have:=h.hgot.lt hj; omega
 ·rcases h5 j hF with h7 | h7
  ·exact h.apart j hj h7
  ·have:=h.faB j hj; omega
 ·rcases h5 j hF with h7 | h7
  ·exact h.offw j hj h7
  ·have:=h.wantB j hj; omega
 ·rcases h5 j hF with h7 | h7
  ·exact h.old j h7
  ·omega
theorem CutI.grow {W0 : World} {B5 ga gb : Nat} {Fa : Nat → Prop} {sa : St} {want : Value} {wl : List UInt8} {s : St} {out out2 : List UInt8} {got got' : Value} {Fb : Nat → Prop} {w w' : World}
  (h : CutI W0 B5 ga gb Fa sa want wl s out got Fb w) (hg : w.grownBy w' got.ownBlock) (ho : Own w' B5 5 1 got' (out.length + out2.length) (u8s out ++ u8s out2)) (hat : got'.ownBlock = got.ownBlock ∨ got'.ownBlock = some w.heap.size) :
  CutI W0 B5 ga gb Fa sa want wl s (out ++ out2) got' Fb w':=by
 have hk:=(Kp.refl (fun j => got.ownBlock = some j) w).grown hg (fun j hj _ => hj); have hgB : ∀ j,got.ownBlock = some j → B5 ≤ j:=fun j hj => (World.ownsRow.lt h.hgot j hj).1
 have hsz:=h.size; have hbase:=h.base; refine ⟨?_,fun j hj hF => ?_,h.db.kp hk (fun j hF e => h.offg j e hF),h.da.kp hk (fun j hF e => ?_),h.apart,h.faB,h.hwant.kp (fun j hj e => ?_) hk,h.wantB,h.offw,h.old,h.below.trans (hk.toBelow h.below.size (fun j hj => ?_)),Nat.le_trans hsz hk.size,hbase⟩
 ·rw [u8s_app,List.length_append]; exact ho
 ·rcases hat with h1 | h1
  ·exact h.offg j (by rw [← h1]; exact hj) hF
  ·rw [h1] at hj; injection hj with hj; have:=h.db.2.1 j hF; omega
 ·have:=h.faB j hF; have:=hgB j e; omega
 ·have:=h.wantB j hj; have:=hgB j e; omega
 ·have:=hgB j hj; omega
theorem CutI.step {W0 : World} {B5 ga gb : Nat} {Fa : Nat → Prop} {sa : St} {want : Value} {wl : List UInt8} {s : St} {out : List UInt8} {got : Value} {Fb : Nat → Prop} {w w' : World}
  (h : CutI W0 B5 ga gb Fa sa want wl s out got Fb w) (hb : Below w.heap.size w w') : CutI W0 B5 ga gb Fa sa want wl s out got Fb w' :=
 ⟨own_below h.hgot hb,h.offg,h.db.below hb,h.da.below hb,h.apart,h.faB,own_below h.hwant hb,h.wantB,h.offw,h.old,h.below.trans (hb.mono h.below.size),Nat.le_trans h.size hb.size,h.base⟩
end Ck
end Go.Proofs.YtjffffpfejmoiaaGreatDoor
namespace Go.Proofs.YtjffffpfejmoiaaGreatDoor
open Go.RowKit Syn Ck
namespace Ck
structure Grw (w0 : World) (v0 : Value) (B : Nat) (v : Value) (L : List UInt8) (w : World) : Prop where
 own : Own w B 5 1 v L.length (u8s L)
 kp : Kp (fun j => v0.ownBlock = some j) w0 w
 at_ : ∀ j,v.ownBlock = some j → v0.ownBlock = some j ∨ w0.heap.size ≤ j
 le : B ≤ w0.heap.size
theorem Grw.init {w : World} {B : Nat} {v : Value} {L : List UInt8} (h : Own w B 5 1 v L.length (u8s L)) (hB : B ≤ w.heap.size) : Grw w v B v L w :=
 ⟨h,Kp.refl _ _,fun _ h => .inl h,hB⟩
theorem Grw.drew {w0 w : World} {B : Nat} {v0 v : Value} {L : List UInt8} (h : Grw w0 v0 B v L w) : Grw w0 v0 B v L w.drew:=⟨h.own,h.kp.drew,h.at_,h.le⟩
theorem Grw.alloc {w0 w : World} {B : Nat} {v0 v : Value} {L : List UInt8} (h : Grw w0 v0 B v L w) (o : Obj) : Grw w0 v0 B v L (w.alloc o):=⟨World.ownsRow.alloc h.own o,h.kp.alloc o,h.at_,h.le⟩
theorem Grw.size {w0 w : World} {B : Nat} {v0 v : Value} {L : List UInt8} (h : Grw w0 v0 B v L w) : B ≤ w.heap.size:=Nat.le_trans h.le h.kp.size
theorem Grw.push {w0 w w' : World} {B : Nat} {v0 v v' : Value} {L M : List UInt8} (h : Grw w0 v0 B v L w) (ho : Own w' B 5 1 v' (L ++ M).length (u8s (L ++ M))) (hg : w.grownBy w' v.ownBlock) (hat : v'.ownBlock = v.ownBlock ∨ v'.ownBlock = some w.heap.size) : Grw w0 v0 B v' (L ++ M) w' :=
 ⟨ho,h.kp.grown hg (fun k hk hlt => (h.at_ k hk).elim id (fun h2 => absurd h2 (by omega))),
  fun j hj => by
   rcases hat with e | e
   ·exact h.at_ j (e ▸ hj)
   ·have:=h.kp.size
    rw [e] at hj
    cases hj
    exact .inr this,h.le⟩
theorem Grw.below {w0 w : World} {B : Nat} {v0 v : Value} {L : List UInt8} (h : Grw w0 v0 B v L w) (hv : ∀ k,v0.ownBlock = some k → B ≤ k) : Below B w0 w:=h.kp.toBelow h.le hv
end Ck
end Go.Proofs.YtjffffpfejmoiaaGreatDoor
namespace Go.Proofs.YtjffffpfejmoiaaGreatDoor
end Go.Proofs.YtjffffpfejmoiaaGreatDoor
namespace Go.Proofs.YtjffffpfejmoiaaGreatDoor
open Go.Shelf Go.RowKit Syn Ck
def bldF : Nat → Nat
 | 166 => 67
 | 169 => 69
 | 170 => 68
 | 240 => 88
 | 276 => 110
 | n => n
def bldT : Nat → Nat
 | 0 => 0
 | 3 => 3
 | 4 => 4
 | 5 => 5
 | 9 => 9
 | 20 => 20
 | 37 => 23
 | 70 => 121
 | 72 => 123
 | 75 => 32
 | 80 => 127
 | 127 => 142
 | 164 => 161
 | n => n
def bldR : Go.Shelf.Ren:=⟨bldF,bldT,fun n => n⟩
theorem bld166 : Go.Proofs.Lays.n166 Tryz.prog bldR:={
 mixed:=by kernel_rfl
 f166:=Tryz.func67.trans (congrArg some (by kernel_rfl))
 f240:=Tryz.func88.trans (congrArg some (by kernel_rfl))
 f276:=Tryz.func110.trans (congrArg some (by kernel_rfl))
 t0:=Tryz.underlying0
 a0:=Tryz.isAgg0
 z0:=Tryz.sizeOf0
 v0:=Tryz.zeroValue0
 t3:=Tryz.underlying3
 a3:=Tryz.isAgg3
 z3:=Tryz.sizeOf3
 v3:=Tryz.zeroValue3
 t4:=Tryz.underlying4
 a4:=Tryz.isAgg4
 z4:=Tryz.sizeOf4
 v4:=Tryz.zeroValue4
 t9:=Tryz.underlying9
 a9:=Tryz.isAgg9
 z9:=Tryz.sizeOf9
 v9:=Tryz.zeroValue9
 t20:=by kernel_rfl
 a20:=fun w => by kernel_rfl
 z20:=fun w => by kernel_rfl
 v20:=fun w => by kernel_rfl
 t37:=Tryz.underlying23
 a37:=Tryz.isAgg23
 z37:=Tryz.sizeOf23
 v37:=Tryz.zeroValue23
 t70:=Tryz.underlying121
 a70:=Tryz.isAgg121
 z70:=Tryz.sizeOf121
 v70:=Tryz.zeroValue121
 t72:=Tryz.underlying123
 a72:=Tryz.isAgg123
 z72:=Tryz.sizeOf123
 v72:=Tryz.zeroValue123
 t75:=by kernel_rfl
 a75:=fun w => by kernel_rfl
 z75:=fun w => by kernel_rfl
 v75:=fun w => by kernel_rfl
 t164:=by kernel_rfl
 a164:=fun w => by kernel_rfl
 z164:=fun w => by kernel_rfl
 v164:=fun w => by kernel_rfl }
theorem bld169 : Go.Proofs.Lays.n169 Tryz.prog bldR:={
 mixed:=by kernel_rfl
 f169:=Tryz.func69.trans (congrArg some (by kernel_rfl))
 t0:=Tryz.underlying0
 a0:=Tryz.isAgg0
 z0:=Tryz.sizeOf0
 v0:=Tryz.zeroValue0
 t3:=Tryz.underlying3
 a3:=Tryz.isAgg3
 z3:=Tryz.sizeOf3
 v3:=Tryz.zeroValue3
 t9:=Tryz.underlying9
 a9:=Tryz.isAgg9
 z9:=Tryz.sizeOf9
 v9:=Tryz.zeroValue9
 t37:=Tryz.underlying23
 a37:=Tryz.isAgg23
 z37:=Tryz.sizeOf23
 v37:=Tryz.zeroValue23
 t70:=Tryz.underlying121
 a70:=Tryz.isAgg121
 z70:=Tryz.sizeOf121
 v70:=Tryz.zeroValue121
 t72:=Tryz.underlying123
 a72:=Tryz.isAgg123
 z72:=Tryz.sizeOf123
 v72:=Tryz.zeroValue123
 t127:=by kernel_rfl
 a127:=fun w => by kernel_rfl
 z127:=fun w => by kernel_rfl
 v127:=fun w => by kernel_rfl }
theorem bld170 : Go.Proofs.Lays.n170 Tryz.prog bldR:={
 mixed:=by kernel_rfl
 f170:=Tryz.func68.trans (congrArg some (by kernel_rfl))
 t0:=Tryz.underlying0
 a0:=Tryz.isAgg0
 z0:=Tryz.sizeOf0
 v0:=Tryz.zeroValue0
 t3:=Tryz.underlying3
 a3:=Tryz.isAgg3
 z3:=Tryz.sizeOf3
 v3:=Tryz.zeroValue3
 t37:=Tryz.underlying23
 a37:=Tryz.isAgg23
 z37:=Tryz.sizeOf23
 v37:=Tryz.zeroValue23
 t70:=Tryz.underlying121
 a70:=Tryz.isAgg121
 z70:=Tryz.sizeOf121
 v70:=Tryz.zeroValue121
 t72:=Tryz.underlying123
 a72:=Tryz.isAgg123
 z72:=Tryz.sizeOf123
 v72:=Tryz.zeroValue123 }
theorem bldX : Builder.Extra Tryz.prog bldR where
 sizeBuilder:=by kernel_rfl
 liesBuilder:=by kernel_rfl
 t5:=by kernel_rfl
 a5:=fun w => by kernel_rfl
 z5:=fun w => by kernel_rfl
 v5:=fun w => by kernel_rfl
 infoByte:=by kernel_rfl
 cellsByte:=by kernel_rfl
 sizeByte:=by kernel_rfl
 neB5:=by decide +kernel
namespace Ck
def Bld (w : World) (B b : Nat) (l : List UInt8) : Prop:=Lib.IsBuilder 123 5 B b (Lib.byteCells l) w
theorem Bld.new (w : World) : Bld (w.alloc (.cells #[.pointer none,.slice none 0 0] 123)) w.heap.size w.heap.size []:=Lib.fresh_isBuilder _ _ w
theorem strCells_str (l : List UInt8) : Lib.strCells (str l) = Lib.byteCells l:=by
 unfold Lib.strCells Lib.byteCells
 simp [str]
theorem byteCells_app (a b : List UInt8) : Lib.byteCells (a ++ b) = Lib.byteCells a ++ Lib.byteCells b:=by simp [Lib.byteCells]
end Ck
theorem bwrite_any {w : World} {B b : Nat} {l s : List UInt8} (h : Bld w B b l) (hn : l.length + s.length ≤ 1000000000) (hB : B ≤ w.heap.size) :
  Calls Tryz.prog 67 #[.pointer (some ⟨b,0,none⟩),.string (str s)] w fun e w' => e = .returned (.tuple #[.int .i64 (s.length : Int),.nilIface]) ∧ Bld w' B b (l ++ s) ∧ Below B w w':=by
 refine (Any.Builder_WriteString bld166 bldX B b (Lib.byteCells l) (str s) w h (by rw [Lib.byteCells_length,str_size]; omega) hB).mono ?_
 rintro e w' ⟨he,h1,h2⟩
 refine ⟨by rw [he,str_size],?_,h2⟩
 rw [strCells_str,← byteCells_app] at h1
 exact .inr h1
theorem blen_any {w : World} {B b : Nat} {l : List UInt8} (h : Bld w B b l) :
  Calls Tryz.prog 68 #[.pointer (some ⟨b,0,none⟩)] w fun e w' => e = .returned (.int .i64 (l.length : Int)) ∧ w' = w:=by
 have:=Any.Builder_Len bld170 B b (Lib.byteCells l) w h
 rw [Lib.byteCells_length] at this
 exact this
theorem bstring_any {w : World} {B b : Nat} {l : List UInt8} (h : Bld w B b l) (hB : B ≤ w.heap.size) :
  Calls Tryz.prog 69 #[.pointer (some ⟨b,0,none⟩)] w fun e w' => e = .returned (.string (str l)) ∧ Below B w w' :=
 Any.Builder_String_any bld169 bldX B b l w h hB
end Go.Proofs.YtjffffpfejmoiaaGreatDoor
