import Derived.Test.YtkcnnkbfnelfjaaRef
import Derived.Deep.RegionWith
import Derived.RegionTactic
import Derived.BigRegion
import Derived.Deep.DeepCutAuto
namespace Go.Proofs.Ytkcnnkbfnelfjaa
open Go.RowKit Sk
/-- What memory holds inside the reference's Add: the parameter's box, the result's block, the rows. -/
structure RA (w wr : World) (lo : Nat) (B0 B : Nat → Nat) (s : S) : Prop where
  box : Blk wr w.heap.size 37 (refV s.W B s.added)
  res : Blk wr (w.heap.size + 1) 37 zeroR
  ref : IsRef wr lo B s
  bel : Below lo w wr
  lo : lo ≤ w.heap.size
  far : ∀ i, i ≤ 4 → B i ≠ w.heap.size ∧ B i ≠ w.heap.size + 1
  old : ∀ i, i ≤ 4 → B i = B0 i ∨ w.heap.size ≤ B i
  oth : ∀ k, k < w.heap.size → (∀ i, i ≤ 4 → k ≠ B0 i) → wr.heap[k]? = w.heap[k]?
section
variable {w wr w' : World} {lo : Nat} {B0 B : Nat → Nat} {s : S}
theorem RA.below (h : RA w wr lo B0 B s) (hb : Below wr.heap.size wr w') : RA w w' lo B0 B s where
  box := (hb.block _ h.box.lt).trans h.box
  res := (hb.block _ h.res.lt).trans h.res
  ref := h.ref.below hb
  bel := h.bel.trans (hb.mono (Nat.le_trans h.lo h.bel.size))
  lo := h.lo
  far := h.far
  old := h.old
  oth k hk hn := (hb.block k (Nat.lt_of_lt_of_le hk h.bel.size)).trans (h.oth k hk hn)
theorem RA.drewN (h : RA w wr lo B0 B s) (n : Nat) : RA w (wr.drewN n) lo B0 B s := h.below (below_drewN (Below.refl _ _) n)
theorem RA.start (h : IsRef w lo B s) : RA w ((w.alloc (.cells (refV s.W B s.added) 37)).alloc (.cells zeroR 37)) lo B B s where
  box := Blk.alloc (heap_alloc_new w _) _
  res := by
    have := heap_alloc_new (w.alloc (.cells (refV s.W B s.added) 37)) (.cells zeroR 37)
    rwa [World.size_alloc] at this
  ref := (h.alloc _).alloc _
  bel := by
    have h0 := h.rB 0 (by omega)
    have h1 := h.lt 0 (by omega)
    exact ((Below.refl _ _).alloc (by omega) _).alloc (by simp; omega) _
  lo := by
    have h0 := h.rB 0 (by omega)
    have h1 := h.lt 0 (by omega)
    omega
  far i hi := by have := h.lt i hi; omega
  old i hi := .inl rfl
  oth k hk _ := (Below.heap_alloc _ _ _ (by simp; omega)).trans (Below.heap_alloc _ _ _ hk)
theorem IsRef.setC (h : IsRef w lo B s) (i j v : Nat) (hi4 : i < 4) (hv : v ≤ 15) (c' : Nat → Nat → Nat) (hc : ∀ i' j', c' i' j' = if i' = i ∧ j' = j then v else s.c i' j') :
    IsRef (w.setCell ⟨B i, j, none⟩ (.int .i64 v)) lo B { s with c := c' } where
  W0 := h.W0
  W1 := h.W1
  ad := h.ad
  rB := h.rB
  ne := h.ne
  row i' hi' := by
    by_cases e : i' = i
    · subst e
      have := (h.row i' hi').set_ j (.int .i64 v)
      rw [rowArr_set] at this
      refine Eq.trans this ?_
      congr 2
      refine rowArr_congr _ fun k _ => ?_
      simp only [hc, true_and]
      split <;> rfl
    · have := (h.row i' hi').far (p := ⟨B i, j, none⟩) (h.ne _ _ (by omega) (by omega) e) (.int .i64 v)
      refine Eq.trans this ?_
      congr 2
      refine rowArr_congr _ fun k _ => ?_
      simp only [hc, e, false_and, if_false]
  door := h.door.far (h.ne _ _ (by omega) (by omega) (by omega)) _
  sm i' j' := by
    simp only [hc]
    split
    · exact hv
    · exact h.sm _ _
theorem IsRef.setD (h : IsRef w lo B s) (j : Nat) (v : Bool) (d' : Nat → Bool) (hd : ∀ j', d' j' = if j' = j then v else s.d j') :
    IsRef (w.setCell ⟨B 4, j, none⟩ (.bool v)) lo B { s with d := d' } where
  W0 := h.W0
  W1 := h.W1
  ad := h.ad
  rB := h.rB
  ne := h.ne
  row i' hi' := (h.row i' hi').far (h.ne _ _ (by omega) (by omega) (by omega)) _
  door := by
    have := h.door.set_ j (.bool v)
    rw [rowArr_set] at this
    refine Eq.trans this ?_
    congr 2
    refine rowArr_congr _ fun k _ => ?_
    simp only [hd]
    split <;> rfl
  sm := h.sm
theorem IsRef.congr (h : IsRef w lo B s) (c' : Nat → Nat → Nat) (hc : ∀ i j, i < 4 → j < s.W → c' i j = s.c i j) (hm : ∀ i j, c' i j ≤ 15) : IsRef w lo B { s with c := c' } where
  W0 := h.W0
  W1 := h.W1
  ad := h.ad
  rB := h.rB
  ne := h.ne
  row i' hi' := by
    refine Eq.trans (h.row i' hi') ?_
    congr 2
    exact rowArr_congr _ fun k hk => by simp only [hc i' k hi' hk]
  door := h.door
  sm := hm
theorem RA.setC (h : RA w wr lo B0 B s) (i j v : Nat) (hi4 : i < 4) (hv : v ≤ 15) (c' : Nat → Nat → Nat) (hc : ∀ i' j', c' i' j' = if i' = i ∧ j' = j then v else s.c i' j') :
    RA w (wr.setCell ⟨B i, j, none⟩ (.int .i64 v)) lo B0 B { s with c := c' } where
  box := h.box.far (h.far i (by omega)).1.symm _
  res := h.res.far (h.far i (by omega)).2.symm _
  ref := h.ref.setC i j v hi4 hv c' hc
  bel := h.bel.setCell (h.ref.rB i (by omega)) _
  lo := h.lo
  far := h.far
  old := h.old
  oth k hk hn := (Below.heap_setCell _ _ _ _ (by have := h.old i (by omega); have := hn i (by omega); show k ≠ B i; omega)).trans (h.oth k hk hn)
theorem RA.setD (h : RA w wr lo B0 B s) (j : Nat) (v : Bool) (d' : Nat → Bool) (hd : ∀ j', d' j' = if j' = j then v else s.d j') :
    RA w (wr.setCell ⟨B 4, j, none⟩ (.bool v)) lo B0 B { s with d := d' } where
  box := h.box.far (h.far 4 (by omega)).1.symm _
  res := h.res.far (h.far 4 (by omega)).2.symm _
  ref := h.ref.setD j v d' hd
  bel := h.bel.setCell (h.ref.rB 4 (by omega)) _
  lo := h.lo
  far := h.far
  old := h.old
  oth k hk hn := (Below.heap_setCell _ _ _ _ (by have := h.old 4 (by omega); have := hn 4 (by omega); show k ≠ B 4; omega)).trans (h.oth k hk hn)
theorem RA.setA (h : RA w wr lo B0 B s) (n : Nat) (hn : n < 1000000000) : RA w (wr.setCell ⟨w.heap.size, 6, none⟩ (.int .i64 n)) lo B0 B { s with added := n } where
  box := h.box.set_ 6 _
  res := h.res.far (by simp) _
  ref := { h.ref.kept (w' := wr.setCell ⟨w.heap.size, 6, none⟩ (.int .i64 n)) (fun i hi => Below.heap_setCell _ _ _ _ (h.far i hi).1) with ad := hn }
  bel := h.bel.setCell h.lo _
  lo := h.lo
  far := h.far
  old := h.old
  oth k hk hn := (Below.heap_setCell _ _ _ _ (by show k ≠ w.heap.size; omega)).trans (h.oth k hk hn)
/-- The bits' blocks behind the new bits. -/
def newBits (B : Nat → Nat) (g : Nat) (i : Nat) : Nat := if i = 4 then g else B i
theorem RA.bits {W : Nat} (h : RA w wr lo B0 B s) (e : s.W = W) : RA w ((wr.alloc (.cells (rowArr W fun _ => .bool false) 4)).setCell ⟨w.heap.size, 5, none⟩ (.slice (some ⟨wr.heap.size, 0, none⟩) W W)) lo B0 (newBits B wr.heap.size) { s with d := fun _ => false } := by
  subst e
  exact
  { box := (h.box.alloc _).set_ 5 _
    res := (h.res.alloc _).far (by simp) _
    ref :=
    { W0 := h.ref.W0
      W1 := h.ref.W1
      ad := h.ref.ad
      rB := fun i hi => by
        have := h.ref.rB i hi
        have := h.bel.size
        have := h.lo
        unfold newBits; split <;> omega
      ne := fun i j hi hj hne => by
        have h1 := h.ref.lt i hi
        have h2 := h.ref.lt j hj
        have := h.ref.ne i j hi hj hne
        unfold newBits
        split <;> split <;> omega
      row := fun i hi => by
        have e : newBits B wr.heap.size i = B i := by unfold newBits; rw [if_neg (by omega)]
        rw [e]
        exact ((h.ref.row i hi).alloc _).far (h.far i (by omega)).1 _
      door := by
        have e : newBits B wr.heap.size 4 = wr.heap.size := by unfold newBits; rw [if_pos rfl]
        rw [e]
        have hl := h.box.lt
        exact Blk.far (heap_alloc_new wr _) (by simp; omega) _
      sm := h.ref.sm }
    bel := (h.bel.alloc (Nat.le_trans h.lo h.bel.size) _).setCell h.lo _
    lo := h.lo
    far := fun i hi => by
      have h1 := h.far i hi
      have h2 := h.box.lt
      have h3 := h.res.lt
      unfold newBits
      split <;> omega
    old := fun i hi => by
      have h1 := h.old i hi
      have h2 := h.box.lt
      unfold newBits
      split <;> omega
    oth := fun k hk hn => (Below.heap_setCell _ _ _ _ (by show k ≠ w.heap.size; omega)).trans ((Below.heap_alloc _ _ _ (Nat.lt_of_lt_of_le hk h.bel.size)).trans (h.oth k hk hn)) }
theorem refV_cell (h : Blk w' lo 37 (refV s.W B s.added)) : w'.cell? ⟨lo, 0, none⟩ = some (.int .i64 s.W) ∧ w'.cell? ⟨lo, 5, none⟩ = some (.slice (some ⟨B 4, 0, none⟩) s.W s.W) ∧ w'.cell? ⟨lo, 6, none⟩ = some (.int .i64 s.added) :=
  ⟨by rw [h.cell]; rfl, by rw [h.cell]; rfl, by rw [h.cell]; rfl⟩
theorem refV_row (h : Blk w' lo 37 (refV s.W B s.added)) (i : Nat) (hi : i < 4) : w'.cell? ⟨lo, 1 + i, none⟩ = some (.slice (some ⟨B i, 0, none⟩) s.W s.W) := by rw [h.cell, refV_at _ _ _ hi]
end
theorem raw_W (s : S) (l : List UInt8) : (raw s l).W = s.W := by unfold raw; split <;> (try split) <;> rfl
theorem refV_one (W : Nat) (B : Nat → Nat) (n : Nat) : (refV W B n).all (·.oneCell') = true := by simp [refV, Value.oneCell']
theorem halve_start {w wr : World} {lo : Nat} {B0 B : Nat → Nat} {s : S} (h : RA w wr lo B0 B s) : RA w wr lo B0 B (halveTo s 0 0) := by rw [halveTo_zero]; exact h
theorem aged_eq2 (s : S) : halveTo { s with d := fun _ => false } 4 0 = aged s := by
  simp only [halveTo, aged, Nat.not_lt_zero, and_false, or_false]
theorem halveTo_nextR {w wr w4 : World} {lo : Nat} {B0 B : Nat → Nat} {s : S} {W i : Nat} (e : s.W = W) (h : RA w wr lo B0 B (halveTo s i W)) (h4 : RA w w4 lo B0 B (halveTo s 0 0)) : RA w wr lo B0 B (halveTo s (i + 1) 0) where
  box := h.box
  res := h.res
  ref := by
    have hm := h4.ref.sm
    rw [halveTo_zero] at hm
    have := h.ref.congr (halveTo s (i + 1) 0).c (fun i' j _ hj => ?_) (fun i' j => ?_)
    · exact this
    · simp only [halveTo] at hj ⊢
      by_cases e1 : i' < i
      · rw [if_pos (by omega), if_pos (by omega)]
      · by_cases e2 : i' = i
        · rw [if_pos (by omega), if_pos (by omega)]
        · rw [if_neg (by omega), if_neg (by omega)]
    · have := hm i' j
      simp only [halveTo]
      split <;> omega
  bel := h.bel
  lo := h.lo
  far := h.far
  old := h.old
  oth := h.oth
theorem max_cast (c m : Nat) : (if (c : Int) < (m : Int) + 1 then (m : Int) + 1 else (c : Int)) = ((max c (m + 1) : Nat) : Int) := by
  rw [Nat.max_def]; split <;> split <;> omega
theorem least_le_c (s : S) (l : List UInt8) : ∀ n i, i < n → leastTo s l n ≤ s.c i (place i l s.W)
  | n + 1, i, h => by
    by_cases e : i = n
    · subst e; exact Nat.min_le_right _ _
    · exact Nat.le_trans (Nat.min_le_left _ _) (least_le_c s l n i (by omega))
theorem bumpTo_max (s : S) (l : List UInt8) (i : Nat) (hi : i < 4) (i' j' : Nat) :
    (bumpTo s l (least s l) (i + 1)).c i' j' = if i' = i ∧ j' = place i l s.W then max (s.c i (place i l s.W)) (least s l + 1) else (bumpTo s l (least s l) i).c i' j' := by
  have hl : least s l ≤ s.c i (place i l s.W) := least_le_c s l 4 i hi
  by_cases hc : s.c i (place i l s.W) = least s l
  · rw [bumpTo_yes s l _ i hc, hc, Nat.max_eq_right (by omega)]
  · rw [bumpTo_no s l _ i hc, Nat.max_eq_left (by omega)]
    split
    · rename_i h
      obtain ⟨rfl, rfl⟩ := h
      rw [bumpTo_c]
    · rfl
set_option maxRecDepth 100000 in
set_option maxHeartbeats 2000000 in
theorem radd_any {lo : Nat} {B : Nat → Nat} {s : S} (k : ByteArray) (w : World) (h : IsRef w lo B s) (hs : k.size ≤ maxLen) (had : s.added < 999999999) :
    Calls Try.prog 18 #[.agg (refV s.W B s.added), .string k] w fun e w' => ∃ B', e = .returned (.agg (refV s.W B' (s.added + 1))) ∧ IsRef w' lo B' (add s k.data.toList) ∧ Below lo w w' ∧ ∀ j, j < w.heap.size → (∀ i, i ≤ 4 → j ≠ B i) → w'.heap[j]? = w.heap[j]? := by
  have hW0 := h.W0
  have hW1 := h.W1
  have hl : least s k.data.toList ≤ 15 := least_le s _ 4
  have hp := place_lt 4 k.data.toList s.W (by omega)
  have i1 : (0 : Int) ≤ (place 4 k.data.toList s.W : Int) := by omega
  have i2 : (place 4 k.data.toList s.W : Int) < (s.W : Int) := by omega
  have A0 := RA.start h
  go_enter Try.func18, Try.ntmps18
  go_upto_if 20 with (first
    | (refine wpList_load_row rfl 37 (.tmp 2) rfl w.heap.size rfl 37 _ (0, 0) _ A0.box Try.underlying37 rfl (by kernel_rfl) ?_)
    | (go_at_call 26; refine (rleast_any (lo := lo) (B := B) (s := s) _ _ A0.ref hs).mono ?_; rintro e w1 ⟨rfl, hb1⟩))
  have A1 := A0.below hb1
  have L := SB.mk' A1.box A1.ref hp
  clear A0 hb1
  go_region_held3 (fun w' => Blk w' w.heap.size 37 (refV s.W B s.added) ∧ IsRef w' lo B s ∧ w'.cell? ⟨B 4, place 4 k.data.toList s.W, none⟩ = some (.bool (s.d (place 4 k.data.toList s.W))) ∧
          w'.cell? ⟨w.heap.size, 0, none⟩ = some (.int .i64 s.W) ∧ w'.cell? ⟨w.heap.size, 1, none⟩ = some (.slice (some ⟨B 0, 0, none⟩) s.W s.W) ∧ w'.cell? ⟨w.heap.size, 2, none⟩ = some (.slice (some ⟨B 1, 0, none⟩) s.W s.W) ∧ w'.cell? ⟨w.heap.size, 3, none⟩ = some (.slice (some ⟨B 2, 0, none⟩) s.W s.W) ∧
          w'.cell? ⟨w.heap.size, 4, none⟩ = some (.slice (some ⟨B 3, 0, none⟩) s.W s.W) ∧ w'.cell? ⟨w.heap.size, 5, none⟩ = some (.slice (some ⟨B 4, 0, none⟩) s.W s.W) ∧ w'.cell? ⟨w.heap.size, 6, none⟩ = some (.int .i64 s.added))
        (first | exact L | exact SB.below L hp (Below.refl _ _).drew | exact SB.below L hp (below_of_drew (by assumption)))
        (first | (go_at_call 27; refine (at_any s.W s.added B _ _ _ hs (by omega) (by omega)).mono ?_; rintro e w' ⟨rfl, hb2⟩))
  have A2 := A1.below (below_of_drew hb2)
  clear L A1 hb2
  go_upto_if 20 with (fail)
  go_cut [5] (fun _ wx => RA w wx lo B B (raw s k.data.toList))
  case first =>
    rcases hb : s.d (place 4 k.data.toList s.W) with _ | _
    · have R := Lib.hid (raw_mark s k.data.toList (by rw [hb]; simp))
      obtain ⟨_, _, q0, q1, q2, q3, q4, q5, q6, q7⟩ := SB.mk' A2.box A2.ref hp
      rw [hb] at q0
      have fq := A2.ref.door.frozen (place 4 k.data.toList s.W)
      go_wp2_with fail
      go_region_with (first | (go_at_call 27; refine (at_any s.W s.added B _ _ _ hs (by omega) (by omega)).mono ?_; rintro e w3 ⟨rfl, hb3⟩; have A3 := A2.below (below_of_drew hb3); have c5 := (refV_cell A3.box).2.1; have cb := A3.ref.cB _ hp; have fb := A3.ref.door.frozen (place 4 k.data.toList s.W)))
      all_goals
        go_wp2_with fail
        go_meet
        rw [R.out]
        exact A3.setD _ true _ (fun _ => rfl)
    · by_cases hm : least s k.data.toList < 15
      · have R := Lib.hid (raw_bump s k.data.toList hb hm)
        go_wp2_with fail
        clear i1 i2
        have hd : decide ((least s k.data.toList : Int) < 15) = true := by simp; omega
        rw [hd, Bool.not_true]
        clear hd
        go_loopw [6, 7, 29] (fun _ _ i wr => ∃ n : Nat, n ≤ 4 ∧ i = .int .i64 n ∧ RA w wr lo B B (bumpTo s k.data.toList (least s k.data.toList) n)) (fun _ _ i _ => 4 - (intOf i).toNat)
        case atStart => exact ⟨0, by omega, rfl, by rw [bumpTo_zero]; exact A2⟩
        case round =>
          rename_i v6 v7 v8
          obtain ⟨i, hi4, rfl, A3⟩ := hrel
          by_cases hlt : i < 4
          · have hp := place_lt i k.data.toList s.W (by omega)
            go_upto_region 9 with (first
              | (refine wpList_load_row rfl 37 (.tmp 2) rfl w.heap.size rfl 37 _ (0, 0) _ A3.box Try.underlying37 rfl (by kernel_rfl) ?_)
              | (go_at_call 27; refine (at_any s.W s.added B _ _ _ hs (by omega) (by omega)).mono ?_; rintro e w1 ⟨rfl, hb1⟩))
            have A4 := A3.below hb1
            have c1 := refV_row A4.box i hlt
            have c2 := A4.ref.cC i (place i k.data.toList s.W) hlt hp
            rw [bumpTo_c] at c2
            have f2 := (A4.ref.row i hlt).frozen (place i k.data.toList s.W)
            have e0 : (bumpTo s k.data.toList (least s k.data.toList) i).W = s.W := rfl
            rw [e0] at c1
            have b1 := A4.ref.sm i (place i k.data.toList s.W)
            rw [bumpTo_c] at b1
            clear e0 A3 hb1
            have hbm := Lib.hid (bumpTo_max s k.data.toList i hlt)
            have hmx := Lib.hid (max_cast (s.c i (place i k.data.toList s.W)) (least s k.data.toList))
            have A5 := A4.setC i (place i k.data.toList s.W) (max (s.c i (place i k.data.toList s.W)) (least s k.data.toList + 1)) hlt (by omega) _ hbm.out
            have A5 := Lib.hid A5
            go_region
            rw [hmx.out]
            go_wp2_with fail
            go_roundw
            case rel => exact ⟨i + 1, by omega, by go_num, A5.out.drewN 1⟩
            case measure => simp [intOf]; omega
          · obtain rfl : i = 4 := by omega
            go_wp2_with fail
            go_meet
            exact by rw [R.out]; exact A3
      · have R := Lib.hid (raw_full s k.data.toList hb hm)
        go_wp2_with fail
        go_meet
        exact by rw [R.out]; exact A2
  case rest =>
    have ea : (raw s k.data.toList).added = s.added := raw_added s _
    have eW : (raw s k.data.toList).W = s.W := raw_W s _
    obtain ⟨c0, c5, c6⟩ := refV_cell hcut.box
    rw [ea] at c6
    rw [eW] at c0
    have f6 := hcut.box.frozen 6
    have A3 : RA w (wc.setCell ⟨w.heap.size, 6, none⟩ (.int .i64 (s.added + 1 : Nat))) lo B B (count (raw s k.data.toList)) := by
      have := hcut.setA (s.added + 1) (by omega)
      rw [count, ea]; exact this
    have e0 : (count (raw s k.data.toList)).W = s.W := eW
    have e1 : (count (raw s k.data.toList)).added = s.added + 1 := by show _ + 1 = _; rw [ea]
    simp only [Int.natCast_add, Int.natCast_one] at A3
    obtain ⟨d0, d5, d6⟩ := refV_cell A3.box
    rw [e0] at d0
    rw [e1] at d6
    simp only [Int.natCast_add, Int.natCast_one] at d6
    have E0 := Lib.hid e0
    have E1 := Lib.hid e1
    clear A2 hcut c5 d5 hl hp i1 i2 e0 e1 ea eW
    rcases hag : decide ((s.added + 1) % (8 * s.W) = 0) with _ | _
    · have hag1 := of_decide_eq_false hag
      clear hag
      have R : Hid (add s k.data.toList = count (raw s k.data.toList)) := Lib.hid (if_neg hag1)
      have hq : (((s.added : Int) + 1) % (8 * (s.W : Int)) == 0) = false := by rw [rem_cast, beq_eq_false_iff_ne]; omega
      go_upto_if 64 with (fail)
      generalize count (raw s k.data.toList) = t at *
      generalize wc.setCell ⟨w.heap.size, 6, none⟩ (.int .i64 ((s.added : Int) + 1)) = w3 at *
      have h1c := refV_one t.W B t.added
      go_wp2_with (first
        | (refine wpList_load_row rfl 37 (.tmp 2) rfl w.heap.size rfl 37 _ (0, 0) _ A3.box Try.underlying37 rfl (by kernel_rfl) ?_)
        | (refine wpList_store_row rfl 37 (.tmp 4) (.tmp 91) rfl (w.heap.size + 1) (refV t.W B t.added) rfl rfl 37 _ A3.res (by kernel_rfl) rfl h1c ?_))
      refine bodyPost_ret (results_cell_row rfl _ _ (w.heap.size + 1) 37 (refV t.W B t.added) (0, 0) _ rfl (setRow_heap _ _ _ _ _ _ A3.res) Try.underlying37 rfl (by kernel_rfl)) rfl ⟨B, ?_, ?_, ?_, fun j hj hn => (setRow_other _ _ _ _ (by omega)).trans (A3.oth j hj hn)⟩
      · rw [E0.out, E1.out]
      · rw [R.out]; exact A3.ref.setRow (fun i hi => (A3.far i hi).2) _
      · exact below_setRow A3.bel (Nat.le_trans A3.lo (by omega)) _
    · have hag1 := of_decide_eq_true hag
      clear hag
      have R : Hid (add s k.data.toList = aged (count (raw s k.data.toList))) := Lib.hid (if_pos hag1)
      have hq : (((s.added : Int) + 1) % (8 * (s.W : Int)) == 0) = true := by rw [rem_cast, beq_iff_eq]; omega
      generalize count (raw s k.data.toList) = t at *
      have hmk := run_make_row' (P := Try.prog) 35 4 (.bool false) 1 Try.underlying35 info4 rfl .i64 .i64 s.W (by omega) (by omega)
      rw [made_bool] at hmk
      go_upto_if 64 with (fail)
      generalize wc.setCell ⟨w.heap.size, 6, none⟩ (.int .i64 ((s.added : Int) + 1)) = w3 at *
      have A4 := A3.bits E0.out
      have g5 := (refV_cell (A3.box.alloc (.cells (rowArr s.W fun _ => .bool false) 4))).2.1
      have gf := (A3.box.alloc (.cells (rowArr s.W fun _ => .bool false) 4)).frozen 5
      rw [E0.out] at g5
      go_wp2_with fail
      clear g5 gf hmk
      have A4 := halve_start A4
      generalize (w3.alloc (.cells (rowArr s.W fun _ => .bool false) 4)).setCell ⟨w.heap.size, 5, none⟩ (.slice (some ⟨w3.heap.size, 0, none⟩) s.W s.W) = w4 at *
      generalize newBits B w3.heap.size = B4 at *
      clear A3 c0 c6 d0 d6 f6
      go_loopw [8, 69] (fun _ i wr => ∃ n : Nat, n ≤ 4 ∧ i = .int .i64 n ∧ RA w wr lo B B4 (halveTo { t with d := fun _ => false } n 0)) (fun _ i _ => 4 - (intOf i).toNat)
      case atStart => exact ⟨0, by omega, rfl, A4⟩
      case round =>
        rename_i v8 v9
        obtain ⟨i, hi4, rfl, A5⟩ := hrel
        obtain ⟨wo, hwo⟩ : ∃ wo : World, wo = wr := ⟨_, rfl⟩
        by_cases hlt : i < 4
        · have d1 := refV_row A5.box i hlt
          have e0 : (halveTo { t with d := fun _ => false } i 0).W = s.W := E0.out
          rw [e0] at d1
          clear e0
          go_wp2_with fail
          clear d1
          go_loopw [9, 77] (fun _ j wr => ∃ m : Nat, m ≤ s.W ∧ j = .int .i64 m ∧ RA w wr lo B B4 (halveTo { t with d := fun _ => false } i m)) (fun _ j _ => s.W - (intOf j).toNat)
          case atStart => exact ⟨0, by omega, rfl, A5⟩
          case round =>
            rename_i v10 v11
            obtain ⟨m, hm, rfl, A6⟩ := hrel
            by_cases hlt2 : m < s.W
            · have d1 := refV_row A6.box i hlt
              have e0 : (halveTo { t with d := fun _ => false } i m).W = s.W := E0.out
              have d2 := A6.ref.cC i m hlt (by rw [e0]; exact hlt2)
              rw [e0] at d1
              rw [halveTo_c] at d2
              clear e0
              have f2 := (A6.ref.row i hlt).frozen m
              have sm := A4.ref.sm i m
              rw [halveTo_zero] at sm
              dsimp only at sm
              go_wp2_with fail
              go_roundw
              case rel => exact ⟨m + 1, by omega, by go_num, A6.setC i m (t.c i m / 2) hlt (by omega) _ (halveTo_step _ i m)⟩
              case measure => simp [intOf]; omega
            · obtain rfl : m = s.W := by omega
              go_wp2_with fail
              go_roundw
              case rel => exact ⟨i + 1, by omega, by go_num, halveTo_nextR E0.out A6 A4⟩
              case measure => simp [intOf]; omega
        · obtain rfl : i = 4 := by omega
          have A6 : RA w wr lo B B4 (aged t) := by rw [← aged_eq2]; exact A5
          clear A5 A4
          have E2 : Hid ((aged t).W = s.W) := E0
          have E3 : Hid ((aged t).added = s.added + 1) := E1
          generalize aged t = u at *
          have h1c := refV_one u.W B4 u.added
          go_wp2_with (first
            | (refine wpList_load_row rfl 37 (.tmp 2) rfl w.heap.size rfl 37 _ (0, 0) _ A6.box Try.underlying37 rfl (by kernel_rfl) ?_)
            | (refine wpList_store_row rfl 37 (.tmp 4) (.tmp 91) rfl (w.heap.size + 1) (refV u.W B4 u.added) rfl rfl 37 _ A6.res (by kernel_rfl) rfl h1c ?_))
          refine bodyPost_ret (results_cell_row rfl _ _ (w.heap.size + 1) 37 (refV u.W B4 u.added) (0, 0) _ rfl (setRow_heap _ _ _ _ _ _ A6.res) Try.underlying37 rfl (by kernel_rfl)) rfl ⟨B4, ?_, ?_, ?_, fun j hj hn => (setRow_other _ _ _ _ (by omega)).trans (A6.oth j hj hn)⟩
          · rw [E2.out, E3.out]
          · rw [R.out]; exact A6.ref.setRow (fun i hi => (A6.far i hi).2) _
          · exact below_setRow A6.bel (Nat.le_trans A6.lo (by omega)) _
end Go.Proofs.Ytkcnnkbfnelfjaa
