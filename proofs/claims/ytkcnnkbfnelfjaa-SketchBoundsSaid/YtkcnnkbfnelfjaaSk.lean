/-
  The sketch as plain data, and how memory holds it. No walk.
-/
import Derived.Test.YtkcnnkbfnelfjaaHash
import Derived.Deep.Draws
import Derived.OpenShut
namespace Go.Proofs.Ytkcnnkbfnelfjaa
open Go.RowKit

/-- Block g is just the cells cs of element type t, none frozen. -/
def Blk (w : World) (g : Nat) (t : TypeId) (cs : Array Value) : Prop := w.heap[g]? = some (.cells cs t (0, 0))

section
variable {w w' : World} {g : Nat} {t : TypeId} {cs : Array Value}
theorem Blk.lt (h : Blk w g t cs) : g < w.heap.size := by
  rcases Nat.lt_or_ge g w.heap.size with hlt | hge
  · exact hlt
  · unfold Blk at h; rw [Array.getElem?_eq_none hge] at h; cases h
theorem Blk.cell (h : Blk w g t cs) (i : Nat) : w.cell? ⟨g, i, none⟩ = cs[i]? := by
  unfold Blk at h; simp [World.cell?, h]
theorem Blk.frozen (h : Blk w g t cs) (i : Nat) : w.frozen? ⟨g, i, none⟩ = false := by
  unfold Blk at h
  simp [World.frozen?, h]
theorem Blk.drewN (h : Blk w g t cs) (n : Nat) : Blk (w.drewN n) g t cs := h
theorem Blk.alloc (h : Blk w g t cs) (o : Obj) : Blk (w.alloc o) g t cs := (Below.heap_alloc w o g h.lt).trans h
theorem Blk.set_ (h : Blk w g t cs) (i : Nat) (u : Value) : Blk (w.setCell ⟨g, i, none⟩ u) g t (cs.setIfInBounds i u) := by
  unfold Blk at h ⊢
  simp [World.setCell, Array.getElem?_modify, h]
theorem Blk.far (h : Blk w g t cs) {p : Addr} (hp : g ≠ p.block) (u : Value) : Blk (w.setCell p u) g t cs := (Below.heap_setCell w p u g hp).trans h
end

/-- A row of W values by a function. -/
def rowArr (W : Nat) (f : Nat → Value) : Array Value := ((List.range W).map f).toArray
theorem rowArr_size (W : Nat) (f : Nat → Value) : (rowArr W f).size = W := by simp [rowArr]
theorem rowArr_get (W : Nat) (f : Nat → Value) (j : Nat) (h : j < W) : (rowArr W f)[j]? = some (f j) := by
  simp [rowArr, h]
theorem rowArr_set (W : Nat) (f : Nat → Value) (j : Nat) (v : Value) : (rowArr W f).setIfInBounds j v = rowArr W (fun k => if k = j then v else f k) := by
  apply Array.ext
  · simp [rowArr]
  · intro k h1 h2
    simp only [rowArr, List.setIfInBounds_toArray, List.getElem_toArray, List.getElem_set, List.getElem_map, List.getElem_range]
    by_cases e : j = k
    · subst e; simp
    · rw [if_neg e, if_neg (fun x => e x.symm)]
theorem rowArr_congr (W : Nat) {f g : Nat → Value} (h : ∀ j, j < W → f j = g j) : rowArr W f = rowArr W g := by
  unfold rowArr
  rw [List.map_congr_left (fun j hj => h j (by simpa using hj))]

namespace Sk
/-- A sketch: width, counters, door, number of calls of Add. -/
structure S where
  W : Nat
  c : Nat → Nat → Nat
  d : Nat → Bool
  added : Nat
def place (i : Int) (l : List UInt8) (W : Nat) : Nat := (hash i l).toNat % W
def leastTo (s : S) (l : List UInt8) : Nat → Nat
  | 0 => 15
  | n + 1 => min (leastTo s l n) (s.c n (place n l s.W))
def least (s : S) (l : List UInt8) : Nat := leastTo s l 4
def bit (s : S) (l : List UInt8) : Bool := s.d (place 4 l s.W)
def est (s : S) (l : List UInt8) : Nat := least s l + (bit s l).toNat
def mark (s : S) (l : List UInt8) : S := { s with d := fun j => if j = place 4 l s.W then true else s.d j }
/-- The first n rows of the counters of a key raised, where they are at m. -/
def bumpTo (s : S) (l : List UInt8) (m n : Nat) : S := { s with c := fun i j => if i < n ∧ j = place i l s.W ∧ s.c i j = m then m + 1 else s.c i j }
def raw (s : S) (l : List UInt8) : S := if bit s l then (if least s l < 15 then bumpTo s l (least s l) 4 else s) else mark s l
def count (s : S) : S := { s with added := s.added + 1 }
/-- The first n rows halved. -/
def halveTo (s : S) (n k : Nat) : S := { s with c := fun i j => if i < n ∨ i = n ∧ j < k then s.c i j / 2 else s.c i j }
def aged (s : S) : S := { s with c := fun i j => if i < 4 then s.c i j / 2 else s.c i j, d := fun _ => false }
def add (s : S) (l : List UInt8) : S := if (s.added + 1) % (8 * s.W) = 0 then aged (count (raw s l)) else count (raw s l)
def new (W : Nat) : S := { W, c := fun _ _ => 0, d := fun _ => false, added := 0 }

theorem hash_bd (i : Int) (l : List UInt8) : 0 ≤ hash i l ∧ hash i l ≤ 18446744073709551615 := bounds_u64 (wf_bits _ _ _ _)
theorem place_lt (i : Int) (l : List UInt8) (W : Nat) (h : 0 < W) : place i l W < W := Nat.mod_lt _ h
theorem place_eq (i : Int) (l : List UInt8) (W : Nat) (_h : 0 < W) (hW : W ≤ 4096) : wrap64 ((hash i l).tmod W) = (place i l W : Int) := by
  obtain ⟨h0, _⟩ := hash_bd i l
  unfold place
  generalize hash i l = x at *
  obtain ⟨n, rfl⟩ := Int.eq_ofNat_of_zero_le h0
  rw [Int.toNat_natCast, Int.tmod_eq_emod_of_nonneg (by omega), ← Int.natCast_emod]
  have := Nat.mod_lt n _h
  exact IntWalk.wrap64_in _ ⟨by omega, by omega⟩

/-- What memory holds of a sketch: the struct in block a, the rows in the blocks B 0 .. B 3, the door in B 4, all of them from lo to hi. -/
structure IsSk (w : World) (lo hi a : Nat) (B : Nat → Nat) (s : S) : Prop where
  W0 : 16 ≤ s.W
  W1 : s.W ≤ 4096
  ad : s.added < 1000000000
  ra : lo ≤ a ∧ a < hi
  rB : ∀ i, i ≤ 4 → lo ≤ B i ∧ B i < hi ∧ B i ≠ a
  hs : hi ≤ w.heap.size
  ne : ∀ i j, i ≤ 4 → j ≤ 4 → i ≠ j → B i ≠ B j
  str : Blk w a 58 #[.int .i64 s.W, .slice (some ⟨B 0, 0, none⟩) s.W s.W, .slice (some ⟨B 1, 0, none⟩) s.W s.W, .slice (some ⟨B 2, 0, none⟩) s.W s.W, .slice (some ⟨B 3, 0, none⟩) s.W s.W, .slice (some ⟨B 4, 0, none⟩) s.W s.W, .int .i64 s.added]
  row : ∀ i, i < 4 → Blk w (B i) 5 (rowArr s.W fun j => .int .u8 (s.c i j))
  door : Blk w (B 4) 4 (rowArr s.W fun j => .bool (s.d j))
  sm : ∀ i j, s.c i j ≤ 15

section
variable {w w' : World} {lo hi a : Nat} {B : Nat → Nat} {s : S}
/-- Where the blocks of the sketch are kept, the sketch is. -/
theorem IsSk.kept (h : IsSk w lo hi a B s) (hk : ∀ k, lo ≤ k → k < hi → w'.heap[k]? = w.heap[k]?) (hz : hi ≤ w'.heap.size) : IsSk w' lo hi a B s where
  W0 := h.W0
  W1 := h.W1
  ad := h.ad
  ra := h.ra
  rB := h.rB
  hs := hz
  ne := h.ne
  str := (hk _ h.ra.1 h.ra.2).trans h.str
  row i hi := (hk _ (h.rB i (by omega)).1 (h.rB i (by omega)).2.1).trans (h.row i hi)
  door := (hk _ (h.rB 4 (by omega)).1 (h.rB 4 (by omega)).2.1).trans h.door
  sm := h.sm
theorem IsSk.drewN (h : IsSk w lo hi a B s) (n : Nat) : IsSk (w.drewN n) lo hi a B s := h.kept (fun _ _ _ => rfl) h.hs
theorem size_setCell (w : World) (p : Addr) (u : Value) : (w.setCell p u).heap.size = w.heap.size := by simp [World.setCell]
theorem IsSk.cW (h : IsSk w lo hi a B s) : w.cell? ⟨a, 0, none⟩ = some (.int .i64 s.W) := by rw [h.str.cell]; rfl
theorem IsSk.cA (h : IsSk w lo hi a B s) : w.cell? ⟨a, 6, none⟩ = some (.int .i64 s.added) := by rw [h.str.cell]; rfl
theorem IsSk.cD (h : IsSk w lo hi a B s) : w.cell? ⟨a, 5, none⟩ = some (.slice (some ⟨B 4, 0, none⟩) s.W s.W) := by rw [h.str.cell]; rfl
theorem IsSk.cR (h : IsSk w lo hi a B s) (i : Nat) (hi : i < 4) : w.cell? ⟨a, 1 + i, none⟩ = some (.slice (some ⟨B i, 0, none⟩) s.W s.W) := by
  rw [h.str.cell]
  match i, hi with
  | 0, _ => rfl
  | 1, _ => rfl
  | 2, _ => rfl
  | 3, _ => rfl
theorem IsSk.cC (h : IsSk w lo hi a B s) (i j : Nat) (hi : i < 4) (hj : j < s.W) : w.cell? ⟨B i, j, none⟩ = some (.int .u8 (s.c i j)) := by
  rw [(h.row i hi).cell, rowArr_get _ _ _ hj]
theorem IsSk.cB (h : IsSk w lo hi a B s) (j : Nat) (hj : j < s.W) : w.cell? ⟨B 4, j, none⟩ = some (.bool (s.d j)) := by
  rw [h.door.cell, rowArr_get _ _ _ hj]
/-- One counter stored. -/
theorem IsSk.setC (h : IsSk w lo hi a B s) (i j v : Nat) (hi4 : i < 4) (hv : v ≤ 15) (c' : Nat → Nat → Nat) (hc : ∀ i' j', c' i' j' = if i' = i ∧ j' = j then v else s.c i' j') :
    IsSk (w.setCell ⟨B i, j, none⟩ (.int .u8 v)) lo hi a B { s with c := c' } where
  W0 := h.W0
  W1 := h.W1
  ad := h.ad
  ra := h.ra
  rB := h.rB
  hs := by rw [size_setCell]; exact h.hs
  ne := h.ne
  str := h.str.far (fun e => (h.rB i (by omega)).2.2 e.symm) _
  row i' hi' := by
    by_cases e : i' = i
    · subst e
      have := (h.row i' hi').set_ j (.int .u8 v)
      rw [rowArr_set] at this
      refine Eq.trans this ?_
      congr 2
      refine rowArr_congr _ fun k _ => ?_
      simp only [hc, true_and]
      split <;> rfl
    · have := (h.row i' hi').far (p := ⟨B i, j, none⟩) (h.ne _ _ (by omega) (by omega) e) (.int .u8 v)
      refine Eq.trans this ?_
      congr 2
      refine rowArr_congr _ fun k _ => ?_
      simp only [hc, e, false_and, if_false]
  door := h.door.far (h.ne _ _ (by omega) (by omega) (by omega)) _
  sm i' j' := by
    simp only [hc]
    split
    · exact hv
    · exact h.sm _ _
/-- One bit of the door stored. -/
theorem IsSk.setD (h : IsSk w lo hi a B s) (j : Nat) (v : Bool) (d' : Nat → Bool) (hd : ∀ j', d' j' = if j' = j then v else s.d j') :
    IsSk (w.setCell ⟨B 4, j, none⟩ (.bool v)) lo hi a B { s with d := d' } where
  W0 := h.W0
  W1 := h.W1
  ad := h.ad
  ra := h.ra
  rB := h.rB
  hs := by rw [size_setCell]; exact h.hs
  ne := h.ne
  str := h.str.far (fun e => (h.rB 4 (by omega)).2.2 e.symm) _
  row i' hi' := (h.row i' hi').far (h.ne _ _ (by omega) (by omega) (by omega)) _
  door := by
    have := h.door.set_ j (.bool v)
    rw [rowArr_set] at this
    refine Eq.trans this ?_
    congr 2
    refine rowArr_congr _ fun k _ => ?_
    simp only [hd]
    split <;> rfl
  sm := h.sm
/-- The count of calls stored. -/
theorem IsSk.setA (h : IsSk w lo hi a B s) (n : Nat) (hn : n < 1000000000) : IsSk (w.setCell ⟨a, 6, none⟩ (.int .i64 n)) lo hi a B { s with added := n } where
  W0 := h.W0
  W1 := h.W1
  ad := hn
  ra := h.ra
  rB := h.rB
  hs := by rw [size_setCell]; exact h.hs
  ne := h.ne
  str := h.str.set_ 6 _
  row i' hi' := (h.row i' hi').far (h.rB i' (by omega)).2.2 _
  door := h.door.far (h.rB 4 (by omega)).2.2 _
  sm := h.sm

/-- Only the blocks from lo to hi may have changed, and new ones have come. -/
structure Ins (lo hi : Nat) (w w' : World) : Prop where
  os : w'.os = w.os
  tape : w'.tape = w.tape
  output : w'.output = w.output
  size : w.heap.size ≤ w'.heap.size
  block : ∀ k, k < w.heap.size → (k < lo ∨ hi ≤ k) → w'.heap[k]? = w.heap[k]?
theorem Ins.refl (lo hi : Nat) (w : World) : Ins lo hi w w := ⟨rfl, rfl, rfl, Nat.le_refl _, fun _ _ _ => rfl⟩
theorem Ins.trans {w1 w2 w3 : World} (h : Ins lo hi w1 w2) (k : Ins lo hi w2 w3) : Ins lo hi w1 w3 :=
  ⟨k.os.trans h.os, k.tape.trans h.tape, k.output.trans h.output, Nat.le_trans h.size k.size, fun i hi' hr => (k.block i (Nat.lt_of_lt_of_le hi' h.size) hr).trans (h.block i hi' hr)⟩
theorem Ins.drewN (h : Ins lo hi w w') (n : Nat) : Ins lo hi w (w'.drewN n) := ⟨h.os, h.tape, h.output, h.size, h.block⟩
theorem Ins.setCell (h : Ins lo hi w w') {p : Addr} (hp : lo ≤ p.block ∧ p.block < hi) (u : Value) : Ins lo hi w (w'.setCell p u) :=
  h.trans ⟨rfl, rfl, rfl, by rw [size_setCell]; exact Nat.le_refl _, fun k _ hr => Below.heap_setCell _ _ _ _ (by omega)⟩
theorem Ins.below (h : Ins lo hi w w') (hl : lo ≤ w.heap.size) : Below lo w w' := ⟨h.os, h.tape, h.output, h.size, fun k hk => h.block k (by omega) (.inl hk)⟩
theorem IsSk.ins (h : IsSk w lo hi a B s) {l2 h2 : Nat} (hi2 : Ins l2 h2 w w') (hd : hi ≤ l2 ∨ h2 ≤ lo) : IsSk w' lo hi a B s :=
  h.kept (fun k hk1 hk2 => hi2.block k (by have := h.hs; omega) (by omega)) (Nat.le_trans h.hs hi2.size)
theorem IsSk.below (h : IsSk w lo hi a B s) {b : Nat} (hb : Below b w w') (hd : hi ≤ b) : IsSk w' lo hi a B s :=
  h.kept (fun k _ hk2 => hb.block k (by omega)) (Nat.le_trans h.hs hb.size)
end
end Sk
end Go.Proofs.Ytkcnnkbfnelfjaa
