import Derived.Test.YtkcnnkbfnelfjaaAwake
import Derived.Deep.RegionHeld3
import Derived.Laws.CopyOwn
namespace Go.Proofs.Ytkcnnkbfnelfjaa
open Go.RowKit Sk
/-- The value of a reference's sketch. -/
def refV (W : Nat) (B : Nat → Nat) (n : Nat) : Array Value := #[.int .i64 W, .slice (some ⟨B 0, 0, none⟩) W W, .slice (some ⟨B 1, 0, none⟩) W W, .slice (some ⟨B 2, 0, none⟩) W W, .slice (some ⟨B 3, 0, none⟩) W W, .slice (some ⟨B 4, 0, none⟩) W W, .int .i64 n]
set_option maxHeartbeats 400000 in
theorem at_any (W n : Nat) (B : Nat → Nat) (i : Int) (s : ByteArray) (w : World) (hs : s.size ≤ maxLen) (hW0 : 0 < W) (hW : W ≤ 4096) :
    Calls Try.prog 27 #[.agg (refV W B n), .int .u64 i, .string s] w fun e w' => e = .returned (.int .i64 (place i s.data.toList W)) ∧ Below w.heap.size w w' := by
  have E := Lib.hid (place_eq i s.data.toList W hW0 hW)
  unfold refV
  go_enter Try.func27, Try.ntmps27
  go_wp2_with fail
  go_quiet ((go_at_call 12; exact Calls.quiet_of_same ((hash2_any _ _ _ hs).mono fun _ _ h => ⟨h.1, h.2.symm⟩)))
  go_wp2
  go_ret
  exact ⟨congrArg (fun x => Ending.returned (.int .i64 x)) E.out, below_drewN ((Below.refl _ _).alloc (Nat.le_refl _) _) _⟩
/-- What memory holds of a reference's sketch: the rows in the blocks B 0 .. B 3, the bits in B 4, all from lo on. -/
structure IsRef (w : World) (lo : Nat) (B : Nat → Nat) (s : S) : Prop where
  W0 : 16 ≤ s.W
  W1 : s.W ≤ 4096
  ad : s.added < 1000000000
  rB : ∀ i, i ≤ 4 → lo ≤ B i
  ne : ∀ i j, i ≤ 4 → j ≤ 4 → i ≠ j → B i ≠ B j
  row : ∀ i, i < 4 → Blk w (B i) 3 (rowArr s.W fun j => .int .i64 (s.c i j))
  door : Blk w (B 4) 4 (rowArr s.W fun j => .bool (s.d j))
  sm : ∀ i j, s.c i j ≤ 15
section
variable {w w' : World} {lo : Nat} {B : Nat → Nat} {s : S}
theorem IsRef.lt (h : IsRef w lo B s) (i : Nat) (hi : i ≤ 4) : B i < w.heap.size := by
  by_cases e : i < 4
  · exact (h.row i e).lt
  · obtain rfl : i = 4 := by omega
    exact h.door.lt
theorem IsRef.kept (h : IsRef w lo B s) (hk : ∀ i, i ≤ 4 → w'.heap[B i]? = w.heap[B i]?) : IsRef w' lo B s where
  W0 := h.W0
  W1 := h.W1
  ad := h.ad
  rB := h.rB
  ne := h.ne
  row i hi := (hk i (by omega)).trans (h.row i hi)
  door := (hk 4 (by omega)).trans h.door
  sm := h.sm
theorem IsRef.below (h : IsRef w lo B s) (hb : Below w.heap.size w w') : IsRef w' lo B s := h.kept fun i hi => hb.block _ (h.lt i hi)
theorem IsRef.drewN (h : IsRef w lo B s) (n : Nat) : IsRef (w.drewN n) lo B s := h.kept fun _ _ => rfl
theorem IsRef.alloc (h : IsRef w lo B s) (o : Obj) : IsRef (w.alloc o) lo B s := h.kept fun i hi => Below.heap_alloc _ _ _ (h.lt i hi)
theorem IsRef.cC (h : IsRef w lo B s) (i j : Nat) (hi : i < 4) (hj : j < s.W) : w.cell? ⟨B i, j, none⟩ = some (.int .i64 (s.c i j)) := by
  rw [(h.row i hi).cell, rowArr_get _ _ _ hj]
theorem IsRef.cB (h : IsRef w lo B s) (j : Nat) (hj : j < s.W) : w.cell? ⟨B 4, j, none⟩ = some (.bool (s.d j)) := by
  rw [h.door.cell, rowArr_get _ _ _ hj]
theorem refV_at (W n : Nat) (i : Nat) (hi : i < 4) : (refV W B n)[1 + i]? = some (.slice (some ⟨B i, 0, none⟩) W W) := by
  match i, hi with
  | 0, _ => rfl
  | 1, _ => rfl
  | 2, _ => rfl
  | 3, _ => rfl
end
/-- What the region in least reads. -/
def SL (B : Nat → Nat) (s : S) (lo b n j : Nat) (w' : World) : Prop := Blk w' b 37 (refV s.W B s.added) ∧ IsRef w' lo B s ∧ w'.cell? ⟨b, 1 + n, none⟩ = some (.slice (some ⟨B n, 0, none⟩) s.W s.W) ∧ w'.cell? ⟨B n, j, none⟩ = some (.int .i64 (s.c n j)) ∧
  w'.cell? ⟨b, 0, none⟩ = some (.int .i64 s.W) ∧ w'.cell? ⟨b, 1, none⟩ = some (.slice (some ⟨B 0, 0, none⟩) s.W s.W) ∧ w'.cell? ⟨b, 2, none⟩ = some (.slice (some ⟨B 1, 0, none⟩) s.W s.W) ∧ w'.cell? ⟨b, 3, none⟩ = some (.slice (some ⟨B 2, 0, none⟩) s.W s.W) ∧
  w'.cell? ⟨b, 4, none⟩ = some (.slice (some ⟨B 3, 0, none⟩) s.W s.W) ∧ w'.cell? ⟨b, 5, none⟩ = some (.slice (some ⟨B 4, 0, none⟩) s.W s.W) ∧ w'.cell? ⟨b, 6, none⟩ = some (.int .i64 s.added)
theorem below_of_drew {w w' : World} (h : Below w.drew.heap.size w.drew w') : Below w.heap.size w w' := ⟨h.os, h.tape, h.output, h.size, h.block⟩
theorem least_step64 (s : S) (l : List UInt8) (n : Nat) : (if s.c n (place n l s.W) < leastTo s l n then ((s.c n (place n l s.W) : Nat) : Int) else ((leastTo s l n : Nat) : Int)) = ((leastTo s l (n + 1) : Nat) : Int) := by
  simp only [leastTo, Nat.min_def]
  split <;> split <;> omega
theorem SL.mk' {B : Nat → Nat} {s : S} {lo b n j : Nat} {w' : World} (h : Blk w' b 37 (refV s.W B s.added)) (h' : IsRef w' lo B s) (hn : n < 4) (hj : j < s.W) : SL B s lo b n j w' :=
  ⟨h, h', by rw [h.cell, refV_at _ _ _ hn], h'.cC _ _ hn hj, by rw [h.cell]; rfl, by rw [h.cell]; rfl, by rw [h.cell]; rfl, by rw [h.cell]; rfl, by rw [h.cell]; rfl, by rw [h.cell]; rfl, by rw [h.cell]; rfl⟩
theorem SL.below {B : Nat → Nat} {s : S} {lo b n j : Nat} {w w' : World} (h : SL B s lo b n j w) (hn : n < 4) (hj : j < s.W) (hb : Below w.heap.size w w') : SL B s lo b n j w' :=
  SL.mk' ((hb.block _ h.1.lt).trans h.1) (h.2.1.below hb) hn hj
/-- What the region that asks for a bit reads. -/
def SB (B : Nat → Nat) (s : S) (lo b j : Nat) (w' : World) : Prop := Blk w' b 37 (refV s.W B s.added) ∧ IsRef w' lo B s ∧ w'.cell? ⟨B 4, j, none⟩ = some (.bool (s.d j)) ∧
  w'.cell? ⟨b, 0, none⟩ = some (.int .i64 s.W) ∧ w'.cell? ⟨b, 1, none⟩ = some (.slice (some ⟨B 0, 0, none⟩) s.W s.W) ∧ w'.cell? ⟨b, 2, none⟩ = some (.slice (some ⟨B 1, 0, none⟩) s.W s.W) ∧ w'.cell? ⟨b, 3, none⟩ = some (.slice (some ⟨B 2, 0, none⟩) s.W s.W) ∧
  w'.cell? ⟨b, 4, none⟩ = some (.slice (some ⟨B 3, 0, none⟩) s.W s.W) ∧ w'.cell? ⟨b, 5, none⟩ = some (.slice (some ⟨B 4, 0, none⟩) s.W s.W) ∧ w'.cell? ⟨b, 6, none⟩ = some (.int .i64 s.added)
theorem SB.mk' {B : Nat → Nat} {s : S} {lo b j : Nat} {w' : World} (h : Blk w' b 37 (refV s.W B s.added)) (h' : IsRef w' lo B s) (hj : j < s.W) : SB B s lo b j w' :=
  ⟨h, h', h'.cB _ hj, by rw [h.cell]; rfl, by rw [h.cell]; rfl, by rw [h.cell]; rfl, by rw [h.cell]; rfl, by rw [h.cell]; rfl, by rw [h.cell]; rfl, by rw [h.cell]; rfl⟩
theorem SB.below {B : Nat → Nat} {s : S} {lo b j : Nat} {w w' : World} (h : SB B s lo b j w) (hj : j < s.W) (hb : Below w.heap.size w w') : SB B s lo b j w' :=
  SB.mk' ((hb.block _ h.1.lt).trans h.1) (h.2.1.below hb) hj
set_option maxRecDepth 100000 in
set_option maxHeartbeats 400000 in
theorem rleast_any {lo : Nat} {B : Nat → Nat} {s : S} (k : ByteArray) (w : World) (h : IsRef w lo B s) (hs : k.size ≤ maxLen) :
    Calls Try.prog 26 #[.agg (refV s.W B s.added), .string k] w fun e w' => e = .returned (.int .i64 (least s k.data.toList)) ∧ Below w.heap.size w w' := by
  have hW0 := h.W0
  have hW1 := h.W1
  go_enter Try.func26, Try.ntmps26
  go_wp2
  go_loopw [5, 6, 7] (fun o j i wr => ∃ n : Nat, n ≤ 4 ∧ o = .int .i64 (leastTo s k.data.toList n) ∧ i = .int .i64 n ∧ Blk wr w.heap.size 37 (refV s.W B s.added) ∧ IsRef wr lo B s ∧ Below w.heap.size w wr) (fun _ _ i _ => 4 - (intOf i).toNat)
  case atStart => exact ⟨0, by omega, rfl, rfl, heap_alloc_new w _, h.alloc _, (Below.refl _ _).alloc (Nat.le_refl _) _⟩
  case round =>
    rename_i v1 v2
    obtain ⟨n, hn, rfl, rfl, hB, h', hb⟩ := hrel
    by_cases hlt : n < 4
    · have hp := place_lt n k.data.toList s.W (by omega)
      have L := SL.mk' hB h' hlt hp
      have i1 : (0 : Int) ≤ (place n k.data.toList s.W : Int) := by omega
      have i2 : (place n k.data.toList s.W : Int) < (s.W : Int) := by omega
      have i5 : IntKind.u64.wrap (n : Int) = (n : Int) := by simp only [IntKind.wrap, IntKind.bits, IntKind.signed]; simp; omega
      have i3 : (0 : Int) ≤ (n : Int) := by omega
      have i4 : (n : Int) < 4 := by omega
      go_wp2_with fail
      go_region_held3 (fun w' => Blk w' w.heap.size 37 (refV s.W B s.added) ∧ IsRef w' lo B s ∧ w'.cell? ⟨w.heap.size, 1 + n, none⟩ = some (.slice (some ⟨B n, 0, none⟩) s.W s.W) ∧ w'.cell? ⟨B n, place n k.data.toList s.W, none⟩ = some (.int .i64 (s.c n (place n k.data.toList s.W))) ∧
          w'.cell? ⟨w.heap.size, 0, none⟩ = some (.int .i64 s.W) ∧ w'.cell? ⟨w.heap.size, 1, none⟩ = some (.slice (some ⟨B 0, 0, none⟩) s.W s.W) ∧ w'.cell? ⟨w.heap.size, 2, none⟩ = some (.slice (some ⟨B 1, 0, none⟩) s.W s.W) ∧ w'.cell? ⟨w.heap.size, 3, none⟩ = some (.slice (some ⟨B 2, 0, none⟩) s.W s.W) ∧
          w'.cell? ⟨w.heap.size, 4, none⟩ = some (.slice (some ⟨B 3, 0, none⟩) s.W s.W) ∧ w'.cell? ⟨w.heap.size, 5, none⟩ = some (.slice (some ⟨B 4, 0, none⟩) s.W s.W) ∧ w'.cell? ⟨w.heap.size, 6, none⟩ = some (.int .i64 s.added))
        (first | exact L | exact SL.below L hlt hp (Below.refl _ _).drew | exact SL.below L hlt hp (below_of_drew (by assumption)))
        (first | (go_at_call 27; refine (at_any s.W s.added B _ _ _ hs (by omega) (by omega)).mono ?_; rintro e w' ⟨rfl, hb1⟩))
      have hH : SL B s lo w.heap.size n (place n k.data.toList s.W) w' := by assumption
      clear i1 i2 i3 i4 i5
      go_wp2
      go_roundw
      case rel => exact ⟨n + 1, by omega, by rw [least_step64], by go_num, hH.1, hH.2.1, hb.trans ((below_of_drew hb1).mono hb.size)⟩
      case measure => simp [intOf]; omega
    · obtain rfl : n = 4 := by omega
      go_wp2
      go_ret
      exact ⟨rfl, hb⟩

set_option maxHeartbeats 400000 in
theorem rest_any {lo : Nat} {B : Nat → Nat} {s : S} (k : ByteArray) (w : World) (h : IsRef w lo B s) (hs : k.size ≤ maxLen) :
    Calls Try.prog 20 #[.agg (refV s.W B s.added), .string k] w fun e w' => e = .returned (.int .i64 (est s k.data.toList)) ∧ Below w.heap.size w w' := by
  have hW0 := h.W0
  have hW1 := h.W1
  have hl : least s k.data.toList ≤ 15 := least_le s _ 4
  have hp := place_lt 4 k.data.toList s.W (by omega)
  have i1 : (0 : Int) ≤ (place 4 k.data.toList s.W : Int) := by omega
  have i2 : (place 4 k.data.toList s.W : Int) < (s.W : Int) := by omega
  have L := SB.mk' (heap_alloc_new w (.cells (refV s.W B s.added) 37)) (h.alloc (.cells (refV s.W B s.added) 37)) hp
  have E : Hid (est s k.data.toList = least s k.data.toList + (s.d (place 4 k.data.toList s.W)).toNat) := rfl
  go_enter Try.func20, Try.ntmps20
  go_wp2_with fail
  go_region_held3 (fun w' => Blk w' w.heap.size 37 (refV s.W B s.added) ∧ IsRef w' lo B s ∧ w'.cell? ⟨B 4, place 4 k.data.toList s.W, none⟩ = some (.bool (s.d (place 4 k.data.toList s.W))) ∧
          w'.cell? ⟨w.heap.size, 0, none⟩ = some (.int .i64 s.W) ∧ w'.cell? ⟨w.heap.size, 1, none⟩ = some (.slice (some ⟨B 0, 0, none⟩) s.W s.W) ∧ w'.cell? ⟨w.heap.size, 2, none⟩ = some (.slice (some ⟨B 1, 0, none⟩) s.W s.W) ∧ w'.cell? ⟨w.heap.size, 3, none⟩ = some (.slice (some ⟨B 2, 0, none⟩) s.W s.W) ∧
          w'.cell? ⟨w.heap.size, 4, none⟩ = some (.slice (some ⟨B 3, 0, none⟩) s.W s.W) ∧ w'.cell? ⟨w.heap.size, 5, none⟩ = some (.slice (some ⟨B 4, 0, none⟩) s.W s.W) ∧ w'.cell? ⟨w.heap.size, 6, none⟩ = some (.int .i64 s.added))
        (first | exact L | exact SB.below L hp (Below.refl _ _).drew | exact SB.below L hp (below_of_drew (by assumption)))
        (first | (go_at_call 27; refine (at_any s.W s.added B _ _ _ hs (by omega) (by omega)).mono ?_; rintro e w' ⟨rfl, hb1⟩))
  have hH : SB B s lo w.heap.size (place 4 k.data.toList s.W) w' := by assumption
  clear i1 i2
  have hbb : Below w.heap.size w w' := ((Below.refl _ _).alloc (Nat.le_refl _) _).trans ((below_of_drew hb1).mono (by simp))
  go_wp2_with (first | (go_at_call 26; refine (rleast_any (lo := lo) (B := B) (s := s) _ _ hH.2.1 hs).mono ?_; rintro e w2 ⟨rfl, hb2⟩))
  · rename_i hb
    go_ret
    exact ⟨congrArg (fun x => Ending.returned (.int .i64 x)) (by rw [E.out, hb]; rfl), hbb.trans (hb2.mono hbb.size)⟩
  · rename_i hb
    go_ret
    exact ⟨congrArg (fun x => Ending.returned (.int .i64 x)) (by rw [E.out, hb]; rfl), hbb.trans (hb2.mono hbb.size)⟩
/-- The struct with its first n rows laid. -/
def stR (b W n : Nat) : Array Value := #[.int .i64 W, if 0 < n then .slice (some ⟨b + 3 + 0, 0, none⟩) W W else .slice none 0 0, if 1 < n then .slice (some ⟨b + 3 + 1, 0, none⟩) W W else .slice none 0 0,
  if 2 < n then .slice (some ⟨b + 3 + 2, 0, none⟩) W W else .slice none 0 0, if 3 < n then .slice (some ⟨b + 3 + 3, 0, none⟩) W W else .slice none 0 0, .slice (some ⟨b + 1, 0, none⟩) W W, .int .i64 0]
theorem stR_next (b W n : Nat) (h : n < 4) : (stR b W n).setIfInBounds (1 + n) (.slice (some ⟨b + 3 + n, 0, none⟩) W W) = stR b W (n + 1) := by
  match n, h with
  | 0, _ => rfl
  | 1, _ => rfl
  | 2, _ => rfl
  | 3, _ => rfl
theorem stR_at (b W n : Nat) (h : n < 4) : (stR b W n)[1 + n]? = some (.slice none 0 0) := by
  match n, h with
  | 0, _ => rfl
  | 1, _ => rfl
  | 2, _ => rfl
  | 3, _ => rfl
def zeroR : Array Value := #[.int .i64 0, .slice none 0 0, .slice none 0 0, .slice none 0 0, .slice none 0 0, .slice none 0 0, .int .i64 0]
theorem info3 : (Try.prog.info? 3).map (fun i => (i.zero, i.size, i.bytes)) = some (some (.int .i64 0), 1, 8) := by kernel_rfl
theorem made_i64 (W : Nat) : madeCells #[Value.int .i64 0] W = rowArr W fun _ => .int .i64 0 := by
  rw [← Array.toArray_toList (xs := madeCells _ _), toList_madeCells_one]; simp [rowArr, List.map_const']
/-- The blocks that the reference's New lays. -/
structure LaidR (w wr : World) (W n : Nat) : Prop where
  size : wr.heap.size = w.heap.size + 3 + n
  res : Blk wr w.heap.size 37 zeroR
  door : Blk wr (w.heap.size + 1) 4 (rowArr W fun _ => .bool false)
  str : Blk wr (w.heap.size + 2) 37 (stR w.heap.size W n)
  row : ∀ k, k < n → Blk wr (w.heap.size + 3 + k) 3 (rowArr W fun _ => .int .i64 0)
  bel : Below w.heap.size w wr
theorem LaidR.next {w wr : World} {W n : Nat} (L : LaidR w wr W n) (hn : n < 4) (hz : wr.heap.size = w.heap.size + 3 + n) :
    LaidR w ((wr.alloc (.cells (rowArr W fun _ => .int .i64 0) 3)).setCell ⟨w.heap.size + 2, 1 + n, none⟩ (.slice (some ⟨wr.heap.size, 0, none⟩) W W)) W (n + 1) where
  size := by
    rw [size_setCell]; simp [hz]; omega
  res := (L.res.alloc _).far (by simp) _
  door := (L.door.alloc _).far (by simp) _
  str := by
    have := (L.str.alloc (.cells (rowArr W fun _ => .int .i64 0) 3)).set_ (1 + n) (.slice (some ⟨wr.heap.size, 0, none⟩) W W)
    rw [hz, stR_next _ _ _ hn] at this
    rw [hz]
    exact this
  row k hk := by
    have hne : w.heap.size + 3 + k ≠ (⟨w.heap.size + 2, 1 + n, none⟩ : Addr).block := by show w.heap.size + 3 + k ≠ w.heap.size + 2; omega
    by_cases e : k = n
    · subst e
      have : Blk (wr.alloc (.cells (rowArr W fun _ => .int .i64 0) 3)) wr.heap.size 3 (rowArr W fun _ => .int .i64 0) := heap_alloc_new wr _
      rw [hz] at this ⊢
      exact this.far hne _
    · exact ((L.row k (by omega)).alloc _).far hne _
  bel := (L.bel.alloc (by omega) _).setCell (by simp) _
def newR (b i : Nat) : Nat := if i < 4 then b + 3 + i else b + 1
theorem LaidR.ref {w wr : World} {W : Nat} (L : LaidR w wr W 4) (h : 16 ≤ W) (h' : W ≤ 4096) : IsRef wr w.heap.size (newR w.heap.size) (Sk.new W) where
  W0 := h
  W1 := h'
  ad := by simp [Sk.new]
  rB i hi := by unfold newR; split <;> omega
  ne i j hi hj hne := by unfold newR; split <;> split <;> omega
  row i hi := by simpa [hi, Sk.new, newR] using L.row i hi
  door := by simpa [Sk.new, newR] using L.door
  sm i j := by simp [Sk.new]
theorem IsRef.setRow {w : World} {lo : Nat} {B : Nat → Nat} {s : S} (h : IsRef w lo B s) {g : Nat} (hg : ∀ i, i ≤ 4 → B i ≠ g) (cs : Array Value) : IsRef (w.setRow g cs) lo B s := h.kept fun i hi => setRow_other _ _ _ _ (hg i hi)
set_option maxHeartbeats 400000 in
theorem rnew_any (W : Nat) (w : World) (h : 16 ≤ W) (h' : W ≤ 4096) :
    Calls Try.prog 15 #[.int .i64 W] w fun e w' => e = .returned (.agg (refV W (newR w.heap.size) 0)) ∧ IsRef w' w.heap.size (newR w.heap.size) (Sk.new W) ∧ Below w.heap.size w w' := by
  have hmk := run_make_row' (P := Try.prog) 35 4 (.bool false) 1 Try.underlying35 info4 rfl .i64 .i64 W (by omega) (by omega)
  have hmk2 := run_make_row' (P := Try.prog) 33 3 (.int .i64 0) 8 Try.underlying33 info3 rfl .i64 .i64 W (by omega) (by omega)
  rw [made_bool] at hmk
  rw [made_i64] at hmk2
  go_enter Try.func15, Try.ntmps15
  go_wp2_with fail
  go_loopw [4, 9] (fun _ i wr => ∃ n : Nat, n ≤ 4 ∧ i = .int .i64 n ∧ LaidR w wr W n) (fun _ i _ => 4 - (intOf i).toNat)
  case atStart =>
    refine ⟨0, by omega, rfl, ⟨by simp, ?_, ?_, ?_, fun k hk => by omega, (((Below.refl _ _).alloc (Nat.le_refl _) _).alloc (by simp) _).alloc (by simp; omega) _⟩⟩
    · exact Blk.alloc (Blk.alloc (heap_alloc_new w _) _) _
    · have := heap_alloc_new (w.alloc (.cells zeroR 37)) (.cells (rowArr W fun _ => .bool false) 4)
      simp only [World.size_alloc] at this
      exact Blk.alloc this _
    · have := heap_alloc_new ((w.alloc (.cells zeroR 37)).alloc (.cells (rowArr W fun _ => .bool false) 4)) (.cells (stR w.heap.size W 0) 37)
      simp only [World.size_alloc] at this
      exact this
  case round =>
    rename_i v5 v6
    obtain ⟨n, hn, rfl, L⟩ := hrel
    by_cases hlt : n < 4
    · have c2 : (wr.alloc (.cells (rowArr W fun _ => .int .i64 0) 3)).cell? ⟨w.heap.size + 2, 1 + n, none⟩ = some (.slice none 0 0) := by rw [(L.str.alloc _).cell, stR_at _ _ _ hlt]
      have f2 := (L.str.alloc (.cells (rowArr W fun _ => .int .i64 0) 3)).frozen (1 + n)
      have Hz := Lib.hid L.size
      go_wp2_with fail
      go_roundw
      case rel => exact ⟨n + 1, by omega, by go_num, L.next hlt Hz.out⟩
      case measure => simp [intOf]; omega
    · obtain rfl : n = 4 := by omega
      have h1c : (stR w.heap.size W 4).all (·.oneCell') = true := by simp [stR, Value.oneCell']
      go_wp2_with (first
        | (refine wpList_load_row rfl 37 (.tmp 3) rfl (w.heap.size + 2) rfl 37 _ (0, 0) _ L.str Try.underlying37 rfl (by kernel_rfl) ?_)
        | (refine wpList_store_row rfl 37 (.tmp 2) (.tmp 18) rfl w.heap.size (stR w.heap.size W 4) rfl rfl 37 _ L.res (by kernel_rfl) rfl h1c ?_))
      refine bodyPost_ret (results_cell_row rfl _ _ w.heap.size 37 (stR w.heap.size W 4) (0, 0) _ rfl (setRow_heap _ _ _ _ _ _ L.res) Try.underlying37 rfl (by kernel_rfl)) rfl ⟨rfl, ?_, ?_⟩
      · exact (L.ref h h').setRow (fun i hi => by unfold newR; split <;> omega) _
      · exact below_setRow L.bel (Nat.le_refl _) _
end Go.Proofs.Ytkcnnkbfnelfjaa
