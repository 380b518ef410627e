import Derived.Test.YtibcbaghgpemfaaGreatDoorGByt
import Derived.Deep.RegionHeld3
import Derived.Deep.QuietTactic
import Derived.BigQuiet
import Derived.Test.YtibcbaghgpemfaaGreatDoorShelfIto
import Derived.Lib.ItoaMem
import Derived.Lib.AppendIntMem
import Derived.Deep.RegionWith
import Derived.Test.YtibcbaghgpemfaaGreatDoorGLow
namespace Go.Proofs.YtibcbaghgpemfaaGreatDoor
open Go.RowKit Syn
namespace Hd
def phrG : List (Nat × List UInt8) :=
 [(100,[67,111,110,116,105,110,117,101]),(101,[83,119,105,116,99,104,105,110,103,32,80,114,111,116,111,99,111,108,115]),(200,[79,75]),(201,[67,114,101,97,116,101,100]),(202,[65,99,99,101,112,116,101,100]),(203,[78,111,110,45,65,117,116,104,111,114,105,116,97,116,105,118,101,32,73,110,102,111,114,109,97,116,105,111,110]),(204,[78,111,32,67,111,110,116,101,110,116]),(206,[80,97,114,116,105,97,108,32,67,111,110,116,101,110,116]),(300,[77,117,108,116,105,112,108,101,32,67,104,111,105,99,101,115]),(301,[77,111,118,101,100,32,80,101,114,109,97,110,101,110,116,108,121]),(302,[70,111,117,110,100]),(303,[83,101,101,32,79,116,104,101,114]),(304,[78,111,116,32,77,111,100,105,102,105,101,100]),(307,[84,101,109,112,111,114,97,114,121,32,82,101,100,105,114,101,99,116]),(308,[80,101,114,109,97,110,101,110,116,32,82,101,100,105,114,101,99,116])]
def phrR : List (Nat × List UInt8) :=
 [(400,[66,97,100,32,82,101,113,117,101,115,116]),(401,[85,110,97,117,116,104,111,114,105,122,101,100]),(403,[70,111,114,98,105,100,100,101,110]),(404,[78,111,116,32,70,111,117,110,100]),(405,[77,101,116,104,111,100,32,78,111,116,32,65,108,108,111,119,101,100]),(408,[82,101,113,117,101,115,116,32,84,105,109,101,111,117,116]),(410,[71,111,110,101]),(411,[76,101,110,103,116,104,32,82,101,113,117,105,114,101,100]),(412,[80,114,101,99,111,110,100,105,116,105,111,110,32,70,97,105,108,101,100]),(413,[67,111,110,116,101,110,116,32,84,111,111,32,76,97,114,103,101]),(414,[85,82,73,32,84,111,111,32,76,111,110,103]),(416,[82,97,110,103,101,32,78,111,116,32,83,97,116,105,115,102,105,97,98,108,101]),(429,[84,111,111,32,77,97,110,121,32,82,101,113,117,101,115,116,115]),(431,[82,101,113,117,101,115,116,32,72,101,97,100,101,114,32,70,105,101,108,100,115,32,84,111,111,32,76,97,114,103,101])]
def phrF : List (Nat × List UInt8) :=
 [(500,[73,110,116,101,114,110,97,108,32,83,101,114,118,101,114,32,69,114,114,111,114]),(501,[78,111,116,32,73,109,112,108,101,109,101,110,116,101,100]),(502,[66,97,100,32,71,97,116,101,119,97,121]),(503,[83,101,114,118,105,99,101,32,85,110,97,118,97,105,108,97,98,108,101]),(504,[71,97,116,101,119,97,121,32,84,105,109,101,111,117,116])]
def lk (l : List (Nat × List UInt8)) (s : Int) : List UInt8:=match l.find? (fun p => decide ((p.1 : Int) = s)) with
 | some p => p.2
 | none => []
def phr : List (Nat × List UInt8):=phrG ++ (phrR ++ phrF)
def rsn (s : Int) : List UInt8:=lk phr s
end Hd
open Hd
end Go.Proofs.YtibcbaghgpemfaaGreatDoor
namespace Go.Proofs.YtibcbaghgpemfaaGreatDoor
open Go.RowKit Syn Hd
namespace Hd
def dg3 (n : Nat) : List UInt8:=[UInt8.ofNat (48 + n / 100),UInt8.ofNat (48 + n / 10 % 10),UInt8.ofNat (48 + n % 10)]
end Hd
open Hd
namespace Hd
end Hd
end Go.Proofs.YtibcbaghgpemfaaGreatDoor
namespace Go.Proofs.YtibcbaghgpemfaaGreatDoor
open Go.RowKit Syn Hd
namespace Hd
end Hd
end Go.Proofs.YtibcbaghgpemfaaGreatDoor
namespace Go.Proofs.YtibcbaghgpemfaaGreatDoor
open Go.RowKit Syn Hd Ck
namespace Hd
def okC (p : List UInt8 × List UInt8) : Bool:=decide (nmE p.1 = 0) && (decide (vlE p.2 = 0) && decide (vlV p.2 = p.2))
def okCs (l : List (List UInt8 × List UInt8)) : Bool:=l.all okC
def can (l : List (List UInt8 × List UInt8)) : List (List UInt8 × List UInt8):=l.map fun p => (nmV p.1,p.2)
def ln (p : List UInt8 × List UInt8) : List UInt8:=p.1 ++ [58,32] ++ p.2 ++ [13,10]
def lns (l : List (List UInt8 × List UInt8)) : List UInt8:=l.flatMap ln
def largeB (start : Nat) (l : List (List UInt8 × List UInt8)) : Bool:=decide (64 < l.length) || decide (8192 < start + 2 + ((lns l).length + 2))
def headB (start : List UInt8) (l : List (List UInt8 × List UInt8)) : List UInt8:=start ++ [13,10] ++ lns l ++ [13,10]
end Hd
end Go.Proofs.YtibcbaghgpemfaaGreatDoor
namespace Go.Proofs.YtibcbaghgpemfaaGreatDoor
open Go.RowKit Syn Hd Ck
theorem herr_ne {n : Int} (h : n ≠ 0) : errV n = .iface 76 (.int .i64 n):=by unfold errV; rw [if_neg h]
namespace Hd
def CanR (w : World) (l : List (List UInt8 × List UInt8)) (e : Ending) (w' : World) : Prop :=
 ∃ o,e = .returned (.tuple #[o,errV (if okCs l = true then 0 else 25)]) ∧ Own w' w.heap.size 26 2 o (if okCs l = true then can l else []).length (prs (if okCs l = true then can l else [])) ∧ Below w.heap.size w w'
theorem CanR.bad {w w' : World} {l : List (List UInt8 × List UInt8)} (h : okCs l = false) (hb : Below w.heap.size w w') : CanR w l (.returned (.tuple #[.slice none 0 0,.iface 76 (.int .i64 25)])) w' :=
 ⟨.slice none 0 0,by rw [h]; rfl,by rw [h]; exact own_nil _ _ _ _,hb⟩
theorem CanR.good {w w' : World} {l : List (List UInt8 × List UInt8)} {o : Value} (h : okCs l = true) (ho : Own w' w.heap.size 26 2 o (can l).length (prs (can l))) (hb : Below w.heap.size w w') : CanR w l (.returned (.tuple #[o,.nilIface])) w' :=
 ⟨o,by rw [h]; rfl,by rw [h]; exact ho,hb⟩
end Hd
end Go.Proofs.YtibcbaghgpemfaaGreatDoor
namespace Go.Proofs.YtibcbaghgpemfaaGreatDoor
open Go.RowKit Syn Hd Ck
end Go.Proofs.YtibcbaghgpemfaaGreatDoor
namespace Go.Proofs.YtibcbaghgpemfaaGreatDoor
open Go.RowKit Syn Hd Ck
namespace Hd
end Hd
end Go.Proofs.YtibcbaghgpemfaaGreatDoor
namespace Go.Proofs.YtibcbaghgpemfaaGreatDoor
open Go.RowKit Syn Hd Ck
namespace Hd
def httpV : List UInt8:=[72,84,84,80,47,49,46,49,32]
def wrE (s : Int) (l : List (List UInt8 × List UInt8)) : Int:=if largeB (13 + (rsn s).length) l = true then 5 else if s < 100 ∨ 599 < s then 2 else if okCs l = true then 0 else 25
def startB (s : Int) : List UInt8:=httpV ++ dg3 s.toNat ++ [32] ++ rsn s
def wrB (s : Int) (l : List (List UInt8 × List UInt8)) : List UInt8:=if wrE s l = 0 then headB (startB s) (can l) else []
def WrR (w : World) (s : Int) (l : List (List UInt8 × List UInt8)) (e : Ending) (w' : World) : Prop :=
 ∃ o,e = .returned (.tuple #[o,errV (wrE s l)]) ∧ OwnM w' w.heap.size o (wrB s l) ∧ Below w.heap.size w w'
theorem WrR.bad {w w' : World} {s : Int} {l : List (List UInt8 × List UInt8)} {n : Int} (h : wrE s l = n) (h0 : n ≠ 0) (hb : Below w.heap.size w w') : WrR w s l (.returned (.tuple #[.slice none 0 0,.iface 76 (.int .i64 n)])) w' :=
 ⟨.slice none 0 0,by rw [h,herr_ne h0],by unfold wrB; rw [h,if_neg h0]; exact .inl ⟨rfl,rfl⟩,hb⟩
theorem WrR.good {w w' : World} {s : Int} {l : List (List UInt8 × List UInt8)} {o : Value} (h : wrE s l = 0) (ho : OwnM w' w.heap.size o (headB (startB s) (can l))) (hb : Below w.heap.size w w') : WrR w s l (.returned (.tuple #[o,.nilIface])) w' :=
 ⟨o,by rw [h]; rfl,by unfold wrB; rw [if_pos h]; exact ho,hb⟩
theorem CanR.no {w w' : World} {l : List (List UInt8 × List UInt8)} {e : Ending} (h : CanR w l e w') (c : ¬ okCs l = true) : ∃ o,e = .returned (.tuple #[o,.iface 76 (.int .i64 25)]) ∧ Below w.heap.size w w':=by
 obtain ⟨o,rfl,-,hb⟩:=h
 exact ⟨o,by rw [if_neg c]; rfl,hb⟩
theorem CanR.yes {w w' : World} {l : List (List UInt8 × List UInt8)} {e : Ending} (h : CanR w l e w') (c : okCs l = true) : ∃ o,e = .returned (.tuple #[o,.nilIface]) ∧ Own w' w.heap.size 26 2 o (can l).length (prs (can l)) ∧ Below w.heap.size w w':=by
 obtain ⟨o,rfl,ho,hb⟩:=h
 rw [if_pos c] at ho
 exact ⟨o,by rw [if_pos c]; rfl,ho,hb⟩
end Hd
abbrev Tab10 (w : World) : Prop:=Lib.TabIs Tryz.prog w "internal/strconv.uint64pow10" .u64 Lib.pow10Tab
theorem Tab10.below {w w' : World} (h : Tab10 w) (hb : Below w.heap.size w w') : Tab10 w':=by
 unfold Tab10 Lib.TabIs at h ⊢
 unfold World.var? at h ⊢
 cases hg : Tryz.prog.globalNamed "internal/strconv.uint64pow10" with
 | none => simp [hg] at h
 | some g =>
  simp only [hg,Option.bind_some] at h ⊢
  have hlt : g < w.heap.size:=by
   rcases Nat.lt_or_ge g w.heap.size with h' | h'
   ·exact h'
   ·simp [Array.getElem?_eq_none h'] at h
  rw [hb.block g hlt]
  exact h
end Go.Proofs.YtibcbaghgpemfaaGreatDoor
namespace Go.Proofs.YtibcbaghgpemfaaGreatDoor
open Go.RowKit Syn Hd Ck
namespace Hd
def RAt (w : World) (s : Int) (v : Value) (w' : World) : Prop:=Below w.heap.size w w' ∧ Blk w' w.heap.size 62 #[.int .i64 s,v]
theorem RAt.below {w a b : World} {s : Int} {v : Value} (h : RAt w s v a) (hb : Below a.heap.size a b) : RAt w s v b :=
 ⟨Below.next h.1 h.1.size hb,h.2.below hb⟩
theorem RAt.at0 {w a : World} {s : Int} {v : Value} (h : RAt w s v a) : a.cell? ⟨w.heap.size,0,none⟩ = some (.int .i64 s):=h.2.cell 0
theorem RAt.more {w a b : World} {s : Int} {v : Value} (h : RAt w s v a ∧ a.cell? ⟨w.heap.size,0,none⟩ = some (.int .i64 s)) (hb : Below a.heap.size a b) : RAt w s v b ∧ b.cell? ⟨w.heap.size,0,none⟩ = some (.int .i64 s) :=
 ⟨h.1.below hb,(h.1.below hb).at0⟩
end Hd
end Go.Proofs.YtibcbaghgpemfaaGreatDoor
namespace Go.Proofs.YtibcbaghgpemfaaGreatDoor
open Go.RowKit Syn Hd Ck
end Go.Proofs.YtibcbaghgpemfaaGreatDoor
namespace Go.Proofs.YtibcbaghgpemfaaGreatDoor
open Go.RowKit Syn
theorem own_far {w : World} {B sz n : Nat} {e : TypeId} {v : Value} {xs : List Value} (h : Own w B e sz v n xs) {p : Addr} (hp : p.block < B) (u : Value) : Own (w.setCell p u) B e sz v n xs:=by
 obtain ⟨hl,h⟩:=h
 refine ⟨hl,?_⟩
 rcases h with h | ⟨g,cap,cur,e1,h1,hg,h2⟩
 ·exact .inl h
 ·refine .inr ⟨g,cap,cur,e1,h1,?_,h2⟩
  rw [Below.heap_setCell w p u g (by omega)]; exact hg
theorem ret_one {P : Program} {fn : Func} {p : Tmp} {ty t : TypeId} {R : Ending → World → Prop} {a : Act} {w : World} {g : Nat} {cs : Array Value} {d : TypeDesc} (h : fn.results = #[.cell p ty])
  (hd0 : a.defers = []) (hp : a.tmps.getD p undef = .pointer (some ⟨g,0,none⟩)) (hb : Blk w g t cs) (hu : P.underlying ty = some d) (hd : (match d with | .struct _ | .array _ _ => true | _ => false) = true)
  (hi : (P.info? ty).map (·.size) = some cs.size) (hR : R (.returned (.agg cs)) w) : bodyPost P fn R .ret a w :=
 bodyPost_ret (results_cell_row h _ w g t cs (0,0) d hp hb hu hd hi) hd0 hR
theorem Blk.three {w : World} {g : Nat} {t : TypeId} {x y z : Value} (h : Blk w g t #[x,y,z]) (a b c : Value) : Blk (((w.setCell ⟨g,0,none⟩ a).setCell ⟨g,1,none⟩ b).setCell ⟨g,2,none⟩ c) g t #[a,b,c]:=((h.set_ 0 a).set_ 1 b).set_ 2 c
end Go.Proofs.YtibcbaghgpemfaaGreatDoor
namespace Go.Proofs.YtibcbaghgpemfaaGreatDoor
open Go.RowKit Syn
end Go.Proofs.YtibcbaghgpemfaaGreatDoor
namespace Go.Proofs.YtibcbaghgpemfaaGreatDoor
open Go.RowKit Syn Hd Ck
namespace Hd
end Hd
end Go.Proofs.YtibcbaghgpemfaaGreatDoor
