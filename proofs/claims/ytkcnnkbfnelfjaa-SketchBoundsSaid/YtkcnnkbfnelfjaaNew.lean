import Derived.Test.YtkcnnkbfnelfjaaAdd
import Derived.Deep.OwnRows
import Derived.RegionTactic
import Derived.BigRegion
namespace Go.Proofs.Ytkcnnkbfnelfjaa
open Go.RowKit Sk
theorem info5 : (Try.prog.info? 5).map (fun i => (i.zero, i.size, i.bytes)) = some (some (.int .u8 0), 1, 1) := by kernel_rfl
theorem info4 : (Try.prog.info? 4).map (fun i => (i.zero, i.size, i.bytes)) = some (some (.bool false), 1, 1) := by kernel_rfl
/-- The struct with its first n rows laid. -/
def st (b W n : Nat) : Array Value := #[.int .i64 W, if 0 < n then .slice (some ⟨b + 2 + 0, 0, none⟩) W W else .slice none 0 0, if 1 < n then .slice (some ⟨b + 2 + 1, 0, none⟩) W W else .slice none 0 0,
  if 2 < n then .slice (some ⟨b + 2 + 2, 0, none⟩) W W else .slice none 0 0, if 3 < n then .slice (some ⟨b + 2 + 3, 0, none⟩) W W else .slice none 0 0, .slice (some ⟨b, 0, none⟩) W W, .int .i64 0]
theorem st_next (b W n : Nat) (h : n < 4) : (st b W n).setIfInBounds (1 + n) (.slice (some ⟨b + 2 + n, 0, none⟩) W W) = st b W (n + 1) := by
  match n, h with
  | 0, _ => rfl
  | 1, _ => rfl
  | 2, _ => rfl
  | 3, _ => rfl
theorem st_at (b W n : Nat) (h : n < 4) : (st b W n)[1 + n]? = some (.slice none 0 0) := by
  match n, h with
  | 0, _ => rfl
  | 1, _ => rfl
  | 2, _ => rfl
  | 3, _ => rfl
theorem made_bool (W : Nat) : madeCells #[Value.bool false] W = rowArr W fun _ => .bool false := by
  rw [← Array.toArray_toList (xs := madeCells _ _), toList_madeCells_one]; simp [rowArr, List.map_const']
theorem made_u8 (W : Nat) : madeCells #[Value.int .u8 0] W = rowArr W fun _ => .int .u8 0 := by
  rw [← Array.toArray_toList (xs := madeCells _ _), toList_madeCells_one]; simp [rowArr, List.map_const']
set_option maxHeartbeats 400000 in
theorem new_bad (W : Int) (w : World) (h : W < 16 ∨ 4096 < W) :
    Calls Try.prog 13 #[.int .i64 W] w fun e w' => e = .returned (.tuple #[.pointer none, .iface 52 (.int .i64 1)]) ∧ w = w' := by
  rcases h with h | h
  · go_enter Try.func13, Try.ntmps13
    go_wp2
    go_ret2
    exact ⟨rfl, rfl⟩
  · have h2 : ¬ W < 16 := by omega
    go_enter Try.func13, Try.ntmps13
    go_wp2
    go_ret2
    exact ⟨rfl, rfl⟩
set_option maxHeartbeats 400000 in
theorem new_bad2 (W : Int) (w : World) (h : ¬ W < 16) (h' : ¬ 4096 < W) (hb : (bits .and .i64 W (W - 1) != 0) = true) :
    Calls Try.prog 13 #[.int .i64 W] w fun e w' => e = .returned (.tuple #[.pointer none, .iface 52 (.int .i64 1)]) ∧ w = w' := by
  go_enter Try.func13, Try.ntmps13
  go_wp2
  go_ret2
  exact ⟨rfl, rfl⟩
/-- The blocks that New lays: the door, the struct, the rows so far. -/
structure Laid (w wr : World) (W n : Nat) : Prop where
  size : wr.heap.size = w.heap.size + 2 + n
  door : Blk wr w.heap.size 4 (rowArr W fun _ => .bool false)
  str : Blk wr (w.heap.size + 1) 58 (st w.heap.size W n)
  row : ∀ k, k < n → Blk wr (w.heap.size + 2 + k) 5 (rowArr W fun _ => .int .u8 0)
  bel : Below w.heap.size w wr
theorem Laid.next {w wr : World} {W n : Nat} (L : Laid w wr W n) (_h : 16 ≤ W) (hn : n < 4) (hz : wr.heap.size = w.heap.size + 2 + n) :
    Laid w ((wr.alloc (.cells (rowArr W fun _ => .int .u8 0) 5)).setCell ⟨w.heap.size + 1, 1 + n, none⟩ (.slice (some ⟨wr.heap.size, 0, none⟩) W W)).drew W (n + 1) where
  size := by
    show (World.setCell _ _ _).heap.size = _
    rw [size_setCell]; simp [hz]; omega
  door := ((L.door.alloc _).far (by simp) _).drewN 1
  str := by
    have := ((L.str.alloc (.cells (rowArr W fun _ => .int .u8 0) 5)).set_ (1 + n) (.slice (some ⟨wr.heap.size, 0, none⟩) W W)).drewN 1
    rw [hz, st_next _ _ _ hn] at this
    rw [hz]
    exact this
  row k hk := by
    have hne : w.heap.size + 2 + k ≠ (⟨w.heap.size + 1, 1 + n, none⟩ : Addr).block := by show w.heap.size + 2 + k ≠ w.heap.size + 1; omega
    by_cases e : k = n
    · subst e
      have : Blk (wr.alloc (.cells (rowArr W fun _ => .int .u8 0) 5)) wr.heap.size 5 (rowArr W fun _ => .int .u8 0) := heap_alloc_new wr _
      rw [hz] at this ⊢
      exact (this.far hne _).drewN 1
    · exact (((L.row k (by omega)).alloc _).far hne _).drewN 1
  bel := ((L.bel.alloc (by omega) _).setCell (by simp) _).drew
set_option maxHeartbeats 400000 in
theorem new_good (W : Nat) (w : World) (h : 16 ≤ W) (h' : W ≤ 4096) (hb : (bits .and .i64 (W : Int) ((W : Int) - 1) != 0) = false) :
    Calls Try.prog 13 #[.int .i64 W] w fun e w' => e = .returned (.tuple #[.pointer (some ⟨w.heap.size + 1, 0, none⟩), .nilIface]) ∧ Laid w w' W 4 := by
  have hmk := run_make_row' (P := Try.prog) 35 4 (.bool false) 1 Try.underlying35 info4 rfl .i64 .i64 W (by omega) (by omega)
  have hmk2 := run_make_row' (P := Try.prog) 26 5 (.int .u8 0) 1 Try.underlying26 info5 rfl .i64 .i64 W (by omega) (by omega)
  have h1 : ¬ (W : Int) < 16 := by omega
  have h2 : ¬ 4096 < (W : Int) := by omega
  rw [made_bool] at hmk
  rw [made_u8] at hmk2
  go_enter Try.func13, Try.ntmps13
  go_wp2
  go_loopw [5, 25] (fun _ i wr => ∃ n : Nat, n ≤ 4 ∧ i = .int .i64 n ∧ Laid w wr W n) (fun _ i _ => 4 - (intOf i).toNat)
  case atStart =>
    refine ⟨0, by omega, rfl, ⟨by simp, (Blk.alloc (heap_alloc_new w _) _), ?_, fun k hk => by omega, ((Below.refl _ _).alloc (Nat.le_refl _) _).alloc (by simp) _⟩⟩
    have := heap_alloc_new (w.alloc (.cells (rowArr W fun _ => .bool false) 4)) (.cells (st w.heap.size W 0) 58)
    simp only [World.size_alloc] at this
    exact this
  case round =>
    rename_i v5 v6
    obtain ⟨n, hn, rfl, L⟩ := hrel
    by_cases hlt : n < 4
    · have c1 : wr.cell? ⟨w.heap.size + 1, 1 + n, none⟩ = some (.slice none 0 0) := by rw [L.str.cell, st_at _ _ _ hlt]
      have f1 := L.str.frozen (1 + n)
      have hz := L.size
      have c2 : (wr.alloc (.cells (rowArr W fun _ => .int .u8 0) 5)).cell? ⟨w.heap.size + 1, 1 + n, none⟩ = some (.slice none 0 0) := by rw [(L.str.alloc _).cell, st_at _ _ _ hlt]
      have f2 := (L.str.alloc (.cells (rowArr W fun _ => .int .u8 0) 5)).frozen (1 + n)
      have Hz := Lib.hid hz
      clear hz
      go_wp2_with fail
      go_region
      go_wp2
      go_roundw
      case rel => exact ⟨n + 1, by omega, by go_num, L.next h hlt Hz.out⟩
      case measure => simp [intOf]; omega
    · obtain rfl : n = 4 := by omega
      go_wp2
      go_ret2
      exact ⟨rfl, L⟩

/-- The new sketch. -/
theorem Laid.sk {w wr : World} {W : Nat} (L : Laid w wr W 4) (h : 16 ≤ W) (h' : W ≤ 4096) :
    IsSk wr w.heap.size (w.heap.size + 6) (w.heap.size + 1) (fun i => if i < 4 then w.heap.size + 2 + i else w.heap.size) (Sk.new W) where
  W0 := h
  W1 := h'
  ad := by simp [Sk.new]
  ra := by omega
  rB i hi := by

    split <;> omega
  hs := by have := L.size; omega
  ne i j hi hj hne := by

    split <;> split <;> omega
  str := L.str
  row i hi := by simpa [hi, Sk.new] using L.row i hi
  door := by simpa [Sk.new] using L.door
  sm i j := by simp [Sk.new]
end Go.Proofs.Ytkcnnkbfnelfjaa
