/-
  Layer 31: a ring in memory; what Add computes.
-/
import Derived.Test.YtpfpjcfacbfjaaaGreatDoorRgSort
import Derived.Test.YtpfpjcfacbfjaaaGreatDoorRgNodes
import Derived.Test.YtpfpjcfacbfjaaaGreatDoorRgHash
import Derived.Deep.RegionHeld3
import Derived.Deep.RegionLaw
import Derived.Deep.DrawnRows
namespace Go.Proofs.YtpfpjcfacbfjaaaGreatDoor
open Go.Shelf Go.RowKit Go.Lib Go.Sort Rg

namespace Rg
/-- The points of a node. -/
def pts1 (x : Nm) (n : Nat) : List Pt := (List.range (8 * n)).map fun (k : Nat) => (Sk.hash (k : Int) x, x)
def addE (x : Nm) (wt : Int) (N : List Nm) : Int := if x.length < 1 ∨ 64 < x.length then 8 else if wt < 1 ∨ 16 < wt then 1 else if x ∈ N then 4 else 0
theorem pts1_len (x : Nm) (n : Nat) : (pts1 x n).length = 8 * n := by simp [pts1]
theorem pts1_take {x : Nm} {n k : Nat} (h : k < 8 * n) : (pts1 x n).take (k + 1) = (pts1 x n).take k ++ [(Sk.hash (k : Int) x, x)] := by
  rw [List.take_succ_eq_append_getElem (by rw [pts1_len]; exact h)]; simp [pts1]
end Rg
theorem infoPt : (Tryz.prog.info? 63).map (fun i => (i.zero, i.size, i.bytes)) = some (some (.agg #[.int .u64 0, .string ⟨#[]⟩]), 2, 24) := by kernel_rfl
theorem pt_one (h : Int) (x : Nm) : ∀ u ∈ [Value.int .u64 h, .string (str x)], u.oneCell' = true := by
  intro u hu
  rcases List.mem_cons.1 hu with rfl | hu
  · rfl
  · rw [List.mem_singleton] at hu; subst hu; rfl
theorem hash_k (k : Nat) (x : Nm) (w : World) (hk : k ≤ 100000) (hx : x.length ≤ 100000) : Calls Tryz.prog 23 #[.int .u64 (IntKind.u64.wrap (k : Int)), .string (str x)] w fun e w' => e = .returned (.int .u64 (Sk.hash (k : Int) x)) ∧ w = w' := by
  have e1 : IntKind.u64.wrap (k : Int) = k := by simp [IntKind.wrap, IntKind.bits, IntKind.signed]; omega
  rw [e1]
  exact hash_any (k : Int) (str x) w (by rw [str_size]; unfold maxLen; omega)
/-- A ring in memory: its names and its points. -/
structure Ring2 (w : World) (B l : Nat) (v1 v2 : Value) (N : List Nm) (Q : List Pt) : Prop where
  blk : Blk w l 51 #[v1, v2]
  base : B ≤ l
  nodes : Own w B 9 1 v1 N.length (strs N)
  points : Own w B 63 2 v2 Q.length (pvs Q)
section
variable {w w' : World} {B l : Nat} {v1 v2 : Value} {N : List Nm} {Q : List Pt}
theorem Ring2.below (h : Ring2 w B l v1 v2 N Q) (hb : Below w.heap.size w w') : Ring2 w' B l v1 v2 N Q := ⟨h.blk.below hb, h.base, own_below h.nodes hb, own_below h.points hb⟩
theorem Ring2.n1 (h : Ring2 w B l v1 v2 N Q) : v1.ownBlock ≠ some l := Own.ne h.nodes h.blk (by decide)
theorem Ring2.n2 (h : Ring2 w B l v1 v2 N Q) : v2.ownBlock ≠ some l := Own.ne h.points h.blk (by decide)
theorem Ring2.n12 (h : Ring2 w B l v1 v2 N Q) {k : Nat} (hk : v1.ownBlock = some k) : v2.ownBlock ≠ some k := Own.apart h.nodes h.points (by decide) hk
theorem Ring2.b1 (h : Ring2 w B l v1 v2 N Q) {k : Nat} (hk : v1.ownBlock = some k) : B ≤ k := (World.ownsRow.lt h.nodes k hk).1
theorem Ring2.b2 (h : Ring2 w B l v1 v2 N Q) {k : Nat} (hk : v2.ownBlock = some k) : B ≤ k := (World.ownsRow.lt h.points k hk).1
end
/-- From W0 to w the ring at l has turned, and nothing else; its slices were v1 and v2, and are u1 and u2. -/
structure Grew (W0 w : World) (l : Nat) (v1 v2 u1 u2 : Value) : Prop where
  kp : Kp (fun b => b = l ∨ v1.ownBlock = some b ∨ v2.ownBlock = some b) W0 w
  n1 : Newer W0 v1 u1
  n2 : Newer W0 v2 u2
theorem Grew.refl (w : World) (l : Nat) (v1 v2 : Value) : Grew w w l v1 v2 v1 v2 := ⟨Kp.refl _ w, fun _ h => Or.inl h, fun _ h => Or.inl h⟩
/-- The names' slice turned. -/
theorem Ring2.mid {W0 W1 X W3 : World} {B l : Nat} {o1 o2 v1 v2 v1' : Value} {N N' : List Nm} {Q : List Pt} (h : Ring2 W1 B l v1 v2 N Q) (G : Grew W0 W1 l o1 o2 v1 v2) (hX : Below W1.heap.size W1 X) (hK : Kp (fun b => v1.ownBlock = some b) X W3) (hn : Newer X v1 v1') (hO : Own W3 B 9 1 v1' N'.length (strs N')) :
    Ring2 (W3.setCell ⟨l, 0, none⟩ v1') B l v1' v2 N' Q ∧ Grew W0 (W3.setCell ⟨l, 0, none⟩ v1') l o1 o2 v1' v2 := by
  have f2 := (h.blk.below hX).kp h.n1 hK
  have hne : v1'.ownBlock ≠ some l := Own.ne hO f2 (by decide)
  have hS : Kp (fun b => b = l) W3 (W3.setCell ⟨l, 0, none⟩ v1') := (Kp.refl (fun b => b = l) W3).set_ (g := l) (fun _ => rfl) 0 v1'
  have h2 := Own.kp (own_below h.points hX) (fun k hk e => h.n12 e hk) hK
  refine ⟨⟨by simpa using f2.set_ 0 v1', h.base, Own.kp hO (fun k hk e => hne (by rw [hk, e])) hS, Own.kp h2 (fun k hk e => h.n2 (by rw [hk, e])) hS⟩, ?_, ?_, G.n2⟩
  · refine ((G.kp.below hX).next (fun k hk hg => ?_) hK).next (fun k _ hg => Or.inl hg) hS
    rcases G.n1 k hg with h | h
    · exact Or.inr (Or.inl h)
    · omega
  · intro k hk
    rcases hn k hk with h | h
    · exact G.n1 k h
    · exact Or.inr (Nat.le_trans (Nat.le_trans G.kp.size hX.size) h)
/-- The points' slice turned. -/
theorem Ring2.mid2 {W0 W1 X W3 : World} {B l : Nat} {o1 o2 v1 v2 v2' : Value} {N : List Nm} {Q Q' : List Pt} (h : Ring2 W1 B l v1 v2 N Q) (G : Grew W0 W1 l o1 o2 v1 v2) (hX : Below W1.heap.size W1 X) (hK : Kp (fun b => v2.ownBlock = some b) X W3) (hn : Newer X v2 v2') (hO : Own W3 B 63 2 v2' Q'.length (pvs Q')) :
    Ring2 (W3.setCell ⟨l, 1, none⟩ v2') B l v1 v2' N Q' ∧ Grew W0 (W3.setCell ⟨l, 1, none⟩ v2') l o1 o2 v1 v2' := by
  have f2 := (h.blk.below hX).kp h.n2 hK
  have hne : v2'.ownBlock ≠ some l := Own.ne hO f2 (by decide)
  have hS : Kp (fun b => b = l) W3 (W3.setCell ⟨l, 1, none⟩ v2') := (Kp.refl (fun b => b = l) W3).set_ (g := l) (fun _ => rfl) 1 v2'
  have h1 := Own.kp (own_below h.nodes hX) (fun k hk e => h.n12 hk e) hK
  refine ⟨⟨by simpa using f2.set_ 1 v2', h.base, Own.kp h1 (fun k hk e => h.n1 (by rw [hk, e])) hS, Own.kp hO (fun k hk e => hne (by rw [hk, e])) hS⟩, ?_, G.n1, ?_⟩
  · refine ((G.kp.below hX).next (fun k hk hg => ?_) hK).next (fun k _ hg => Or.inl hg) hS
    rcases G.n2 k hg with h | h
    · exact Or.inr (Or.inr h)
    · omega
  · intro k hk
    rcases hn k hk with h | h
    · exact G.n2 k h
    · exact Or.inr (Nat.le_trans (Nat.le_trans G.kp.size hX.size) h)
/-- What is kept while a ring turns, told from a base below it. -/
theorem Ring2.frame {w w' : World} {B l : Nat} {v1 v2 : Value} {N : List Nm} {Q : List Pt} (h : Ring2 w B l v1 v2 N Q) (hB : B ≤ w.heap.size) (hk : Kp (fun b => b = l ∨ v1.ownBlock = some b ∨ v2.ownBlock = some b) w w') : Below B w w' :=
  hk.toBelow hB (fun k hk => by
    rcases hk with rfl | hk | hk
    · exact h.base
    · exact h.b1 hk
    · exact h.b2 hk)
/-- Inside Add: the ring, the variable that points to it, what is kept. -/
def Mid (W0 : World) (B R l : Nat) (o1 o2 : Value) (N : List Nm) (Q : List Pt) (w : World) : Prop := ∃ v1 v2, Ring2 w B l v1 v2 N Q ∧ Blk w R 25 #[.pointer (some ⟨l, 0, none⟩)] ∧ Grew W0 w l o1 o2 v1 v2
end Go.Proofs.YtpfpjcfacbfjaaaGreatDoor
