/-
  sort.Slice with a comparison that may lay blocks of its own: what is asked of it, and the worlds that such a sort passes through.
-/
import Derived.Test.YtpfpjcfacbfjaaaGreatDoorRows
import Derived.WalkKit
import Derived.Lib.Hide
import Derived.Deep.LoopGhost
import Derived.Deep.Cut
import Derived.Shelf.SlSortFuncK.SWK
import Derived.Shelf.GgSortFunc.SmallK
namespace Go.Proofs.YtpfpjcfacbfjaaaGreatDoor
open Go.Shelf Go.RowKit Go.Lib Go.Sort
variable {P : Program} {ρ : Ren} {α : Type} [Inhabited α]

/-- Draws and new blocks behind a world. -/
def Grown (W w' : World) : Prop := ∃ q os, w' = grow (W.drewN q) os
section
variable {enc : α → List Value} {k : Nat} {w0 W w' : World} {blk off : Nat} {d d' : Array α}
theorem swk_grown (h : SWK enc k w0 blk off d W) (hg : Grown W w') : SWK enc k w0 blk off d w' := by
  obtain ⟨n, os, rfl⟩ := h
  obtain ⟨q, os', rfl⟩ := hg
  refine ⟨n + q, os ++ os', ?_⟩
  unfold sortWorldK
  show grow (grow ((putRowK enc k (Sort.ahead w0 n) blk off d).drewN q) os) os' = _
  rw [grow_grow, putRowK_drewN]
theorem swk_trans (h : SWK enc k w0 blk off d W) (hblk : blk < w0.heap.size) (hs : d'.size = d.size) (h' : SWK enc k W blk off d' w') : SWK enc k w0 blk off d' w' := by
  obtain ⟨m, os, rfl⟩ := h'
  exact h.on hblk m d' os hs
theorem swk_alloc {o : Obj} (h : SWK enc k (W.alloc o) blk off d w') (hblk : blk < W.heap.size) : SWK enc k W blk off d w' := by
  obtain ⟨n, os, rfl⟩ := h
  refine ⟨n, #[o] ++ os, ?_⟩
  unfold sortWorldK
  rw [alloc_eq_grow, ahead_grow, putRowK_grow enc k (Sort.ahead W n) _ blk off _ hblk, grow_grow]
/-- What lies in another block. -/
theorem swk_cell (h : SWK enc k w0 blk off d W) {a : Addr} (h1 : a.block ≠ blk) (h2 : a.block < w0.heap.size) : W.cell? a = w0.cell? a := by
  obtain ⟨n, os, rfl⟩ := h
  unfold sortWorldK
  rw [cell?_grow _ _ _ (by rw [size_putRowK]; exact h2), cell?_putRowK_other enc k _ blk off d a h1]
  rfl
/-- The two cells of a function's own box. -/
theorem swk_box {x y : Value} {t : TypeId} (hblk : blk < w0.heap.size) (h : SWK enc k (w0.alloc (.cells #[x, y] t)) blk off d W) :
    W.cell? ⟨w0.heap.size, 0, none⟩ = some x ∧ W.cell? ⟨w0.heap.size, 1, none⟩ = some y := by
  have hn : w0.heap.size ≠ blk := by omega
  have hl : w0.heap.size < (w0.alloc (.cells #[x, y] t)).heap.size := by rw [alloc_eq_grow, size_grow]; simp
  exact ⟨(swk_cell h (a := ⟨w0.heap.size, 0, none⟩) hn hl).trans (by simp), (swk_cell h (a := ⟨w0.heap.size, 1, none⟩) hn hl).trans (by simp)⟩
end

/-- What is asked of the comparison (function g, bound to lb): in each world that the sort passes through it tells lt of the two elements, and draws and lays blocks at most. -/
def LessG (P : Program) (g : Nat) (lb : Array Value) (enc : α → List Value) (k : Nat) (lt : α → α → Bool) (blk off size : Nat) (w : World) : Prop :=
  ∀ (W : World) (dk : Array α), SWK enc k w blk off dk W → dk.size = size → ∀ i j : Nat, i < size → j < size →
    Calls P g (#[.int .i64 i, .int .i64 j] ++ lb) W fun e w' => e = .returned (.bool (lt dk[i]! dk[j]!)) ∧ Grown W w'

/-- All that a function of the sort's is handed. -/
structure SortIn (P : Program) (g : Nat) (lb : Array Value) (sf : Nat) (sb : Array Value) (enc : α → List Value) (k : Nat) (lt : α → α → Bool) (blk off : Nat) (d : Array α) (w : World) : Prop where
  hk : ∀ x, (enc x).length = k
  eg : ∀ args w, (callFunc g args).run P w = .ok (.enter g args) w
  less : LessG P g lb enc k lt blk off d.size w
  swap : SwapSwapsK P sf sb enc k blk off d.size
  holds : HoldsK enc k w blk off d
  blk_lt : blk < w.heap.size
  sz : d.size < 4611686018427387904
section
variable {g : Nat} {lb : Array Value} {sf : Nat} {sb : Array Value} {enc : α → List Value} {k : Nat} {lt : α → α → Bool} {blk off : Nat} {d dk : Array α} {w W : World}
theorem SortIn.on (S : SortIn P g lb sf sb enc k lt blk off d w) (hW : SWK enc k w blk off dk W) (hs : dk.size = d.size) : SortIn P g lb sf sb enc k lt blk off dk W where
  hk := S.hk
  eg := S.eg
  less := fun X dj hX hj i j hi hj' => by
    rw [hs] at hj hi hj'
    exact S.less X dj (swk_trans hW S.blk_lt (by rw [hj, hs]) hX) hj i j hi hj'
  swap := by rw [hs]; exact S.swap
  holds := hW.holds S.blk_lt S.holds hs
  blk_lt := hW.lt S.blk_lt
  sz := by rw [hs]; exact S.sz
theorem SortIn.start (S : SortIn P g lb sf sb enc k lt blk off d w) : SWK enc k w blk off d w := SWK.start S.holds
/-- With a box of the function's own laid. -/
theorem SortIn.boxed (S : SortIn P g lb sf sb enc k lt blk off d w) (o : Obj) : SortIn P g lb sf sb enc k lt blk off d (w.alloc o) := S.on (S.start.alloc o) rfl
/-- The comparison, at two places whose numbers the walk spells in its own way. -/
theorem SortIn.ask (S : SortIn P g lb sf sb enc k lt blk off d w) (hW : SWK enc k w blk off dk W) (hs : dk.size = d.size) (i j : Nat) (hi : i < d.size) (hj : j < d.size) {x y : Int} (hx : (i : Int) = x) (hy : (j : Int) = y) {b : Bool} (hb : lt dk[i]! dk[j]! = b) :
    Calls P g (#[.int .i64 x, .int .i64 y] ++ lb) W fun e w' => e = .returned (.bool b) ∧ Grown W w' := by
  subst hx hy hb
  exact S.less W dk hW hs i j hi hj
/-- The exchange. -/
theorem SortIn.exch (S : SortIn P g lb sf sb enc k lt blk off d w) (hW : SWK enc k w blk off dk W) (hs : dk.size = d.size) (i j : Nat) (hi : i < d.size) (hj : j < d.size) {x y : Int} (hx : (i : Int) = x) (hy : (j : Int) = y) :
    ∃ W', (callFunc sf (#[.int .i64 x, .int .i64 y] ++ sb)).run P W = .ok (.value (.tuple #[])) W' ∧ SWK enc k w blk off (swp dk i j) W' := by
  subst hx hy
  exact ⟨_, S.swap W dk (hW.holds S.blk_lt S.holds hs) hs i j hi hj, hW.swap S.hk S.blk_lt i j (by omega) (by omega)⟩
end
end Go.Proofs.YtpfpjcfacbfjaaaGreatDoor
