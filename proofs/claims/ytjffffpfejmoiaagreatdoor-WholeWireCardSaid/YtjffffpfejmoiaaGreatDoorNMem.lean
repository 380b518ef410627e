import Derived.Test.YtjffffpfejmoiaaGreatDoorNApp
import Derived.Test.YtjffffpfejmoiaaGreatDoorGCk
import Derived.Test.YtjffffpfejmoiaaGreatDoorGHd
import Derived.Test.YtjffffpfejmoiaaGreatDoorGFr
namespace Go.Proofs.YtjffffpfejmoiaaGreatDoor
open Go.RowKit Syn Hd Fr Ck
def On (P : Nat → Prop) (v : Value) : Prop:=∀ k,v.ownBlock = some k → P k
theorem On.mono {P Q : Nat → Prop} {v : Value} (h : On P v) (hq : ∀ k,P k → Q k) : On Q v:=fun k hk => hq k (h k hk)
theorem On.nil (P : Nat → Prop) : On P (.slice none 0 0):=fun k hk => by cases hk
theorem On.off {P G : Nat → Prop} {v : Value} (h : On P v) (hq : ∀ k,P k → ¬ G k) : Off G v:=fun k hk => hq k (h k hk)
theorem On.own {w : World} {B sz n : Nat} {e : TypeId} {v : Value} {xs : List Value} (h : Own w B e sz v n xs) : On (fun k => B ≤ k ∧ k < w.heap.size) v:=fun k hk => World.ownsRow.lt h k hk
namespace Cn
def cells (c : C) (vm vb : Value) (kv lv : Int) (vd ev : Value) : Array Value :=
 #[.bool c.resp,.bool c.closed,.bool c.body,vm,.int .i64 (c.many : Int),vb,.int .i64 kv,.int .i64 lv,vd,ev]
def DecAt (w : World) (F : Nat → Prop) (g : Nat) (c : C) (vm vb vd : Value) : Prop :=
 ∃ gd Fd,vd = .pointer (some ⟨gd,0,none⟩) ∧ Decv w gd Fd c.dec (errV c.dec.bad) ∧ (∀ k,Fd k → F k) ∧ ¬ Fd g ∧ Off Fd vm ∧ Off Fd vb
structure Live (w : World) (g : Nat) (F : Nat → Prop) (c : C) (vm vb : Value) (kv lv : Int) (vd : Value) : Prop where
 meth : Rd w 1 vm c.meth.length (strs c.meth)
 methF : On (fun k => F k ∧ k ≠ g) vm
 few : c.meth.length ≤ 1000
 nil : ∃ A cap,vb = .slice A c.buf.length cap ∧ (A = none → cap = 0) ∧ (c.body = true → c.kind ≠ 4 → ∃ b o,A = some ⟨b,o,none⟩)
 buf : Rd w 1 vb c.buf.length (u8s c.buf)
 bufF : On (fun k => F k ∧ k ≠ g) vb
 many : c.many ≤ 64
 one : c.body = true → c.resp = true → c.meth ≠ []
 frame : c.body = true → kv = (c.kind : Int) ∧ lv = (c.len : Int) ∧ c.len ≤ 1000000 ∧ (c.kind = 3 → c.dec.bad = 0 ∧ DecAt w F g c vm vb vd)
def At (w : World) (g : Nat) (F : Nat → Prop) (c : C) : Prop :=
 F g ∧ (∀ k,F k → k < w.heap.size) ∧ ∃ vm vb kv lv vd,Blk w g 73 (cells c vm vb kv lv vd (errV c.err)) ∧ (c.err = 0 → Live w g F c vm vb kv lv vd)
section
variable {w w' : World} {g : Nat} {F G : Nat → Prop} {c : C} {vm vb vd : Value} {kv lv : Int}
theorem DecAt.kp (h : DecAt w F g c vm vb vd) (hk : Kp G w w') (hG : ∀ k,F k → k ≠ g → ¬ G k) : DecAt w' F g c vm vb vd:=by
 obtain ⟨gd,Fd,e,h1,h2,h3,h4,h5⟩:=h
 exact ⟨gd,Fd,e,h1.kp hk (fun k hf => hG k (h2 k hf) (fun e => h3 (e ▸ hf))),h2,h3,h4,h5⟩
theorem Live.kp (h : Live w g F c vm vb kv lv vd) (hk : Kp G w w') (hG : ∀ k,F k → k ≠ g → ¬ G k) : Live w' g F c vm vb kv lv vd :=
 ⟨h.meth.kp (h.methF.off fun k hf => hG k hf.1 hf.2) hk,h.methF,h.few,h.nil,h.buf.kp (h.bufF.off fun k hf => hG k hf.1 hf.2) hk,h.bufF,h.many,h.one,
  fun hb => ⟨(h.frame hb).1,(h.frame hb).2.1,(h.frame hb).2.2.1,fun h3 => ⟨((h.frame hb).2.2.2 h3).1,((h.frame hb).2.2.2 h3).2.kp hk hG⟩⟩⟩
theorem At.kp (h : At w g F c) (hk : Kp G w w') (hG : ∀ k,F k → ¬ G k) : At w' g F c:=by
 obtain ⟨h1,h2,vm,vb,kv,lv,vd,hb,hl⟩:=h
 exact ⟨h1,fun k hf => Nat.lt_of_lt_of_le (h2 k hf) hk.size,vm,vb,kv,lv,vd,hb.kp (hG g h1) hk,fun e => (hl e).kp hk fun k hf _ => hG k hf⟩
theorem kp_none (h : Below w.heap.size w w') : Kp (fun _ => False) w w':=(Kp.refl _ w).below h
end
def EvC (w : World) (P : Nat → Prop) (e : Ev) (xs : List Value) : Prop :=
 ∃ vr vs vd vt,xs = [.int .i64 (e.kind : Int),.string (str e.m),.string (str e.t),vr,.int .i64 e.st,vs,vd,vt] ∧ Rd w 2 vr e.rf.length (prs e.rf) ∧ On P vr ∧ Rd w 2 vs e.sf.length (prs e.sf) ∧ On P vs ∧
  Rd w 1 vd e.data.length (u8s e.data) ∧ On P vd ∧ Rd w 2 vt e.tr.length (prs e.tr) ∧ On P vt
theorem EvC.len {w : World} {P : Nat → Prop} {e : Ev} {xs : List Value} (h : EvC w P e xs) : xs.length = 8:=by
 obtain ⟨_,_,_,_,rfl,-⟩:=h; rfl
theorem EvC.mono {w : World} {P Q : Nat → Prop} {e : Ev} {xs : List Value} (h : EvC w P e xs) (hq : ∀ k,P k → Q k) : EvC w Q e xs:=by
 obtain ⟨a,b,c,d,e,h1,h2,h3,h4,h5,h6,h7,h8⟩:=h
 exact ⟨a,b,c,d,e,h1,h2.mono hq,h3,h4.mono hq,h5,h6.mono hq,h7,h8.mono hq⟩
theorem EvC.kp {w w' : World} {P G : Nat → Prop} {e : Ev} {xs : List Value} (h : EvC w P e xs) (hk : Kp G w w') (hq : ∀ k,P k → ¬ G k) : EvC w' P e xs:=by
 obtain ⟨a,b,c,d,e,h1,h2,h3,h4,h5,h6,h7,h8⟩:=h
 exact ⟨a,b,c,d,e,h1.kp (h2.off hq) hk,h2,h3.kp (h4.off hq) hk,h4,h5.kp (h6.off hq) hk,h6,h7.kp (h8.off hq) hk,h8⟩
inductive EvsC (w : World) (P : Nat → Prop) : List Ev → List Value → Prop
 | nil : EvsC w P [] []
 | cons {e : Ev} {l : List Ev} {xs ys : List Value} : EvC w P e xs → EvsC w P l ys → EvsC w P (e :: l) (xs ++ ys)
theorem EvsC.len {w : World} {P : Nat → Prop} {l : List Ev} {xs : List Value} (h : EvsC w P l xs) : xs.length = l.length * 8:=by
 induction h with
 | nil => rfl
 | cons h1 h2 ih => rw [List.length_append,h1.len,ih,List.length_cons]; omega
theorem EvsC.mono {w : World} {P Q : Nat → Prop} {l : List Ev} {xs : List Value} (h : EvsC w P l xs) (hq : ∀ k,P k → Q k) : EvsC w Q l xs:=by
 induction h with
 | nil => exact .nil
 | cons h1 h2 ih => exact .cons (h1.mono hq) ih
theorem EvsC.kp {w w' : World} {P G : Nat → Prop} {l : List Ev} {xs : List Value} (h : EvsC w P l xs) (hk : Kp G w w') (hq : ∀ k,P k → ¬ G k) : EvsC w' P l xs:=by
 induction h with
 | nil => exact .nil
 | cons h1 h2 ih => exact .cons (h1.kp hk hq) ih
theorem EvsC.app {w : World} {P : Nat → Prop} {l m : List Ev} {xs ys : List Value} (h : EvsC w P l xs) (h2 : EvsC w P m ys) : EvsC w P (l ++ m) (xs ++ ys):=by
 induction h with
 | nil => exact h2
 | cons h1 h3 ih => rw [List.append_assoc]; exact .cons h1 ih
theorem EvsC.one {w : World} {P : Nat → Prop} {e : Ev} {xs : List Value} (h : EvC w P e xs) : EvsC w P [e] xs:=by
 have:=EvsC.cons h (.nil (w:=w) (P:=P))
 rwa [List.append_nil] at this
def evV (xs : List Value) : Value:=.agg xs.toArray
end Cn
end Go.Proofs.YtjffffpfejmoiaaGreatDoor
