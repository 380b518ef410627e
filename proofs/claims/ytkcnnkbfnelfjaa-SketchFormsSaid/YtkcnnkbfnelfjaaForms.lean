import Derived.Test.YtkcnnkbfnelfjaaAwake
namespace Go.Proofs.Ytkcnnkbfnelfjaa
open Go.RowKit Sk
theorem addnil_any (k : ByteArray) (w : World) : Calls Try.prog 16 #[.pointer none, .string k] w fun e w' => e = .returned (.tuple #[]) ∧ w = w' := by
  go_enter Try.func16, Try.ntmps16
  go_wp2
  refine bodyPost_ret (results_none rfl _ _ _) rfl ⟨rfl, rfl⟩
def okTo (W : Int) (n : Nat) : Bool := (List.range n).any fun m => W == ((16 * 2 ^ m : Nat) : Int)
theorem okTo_succ (W : Int) (n : Nat) : okTo W (n + 1) = (okTo W n || W == ((16 * 2 ^ n : Nat) : Int)) := by
  unfold okTo; rw [List.range_succ, List.any_append]; simp
theorem pow_check : (List.range 4097).all (fun n => n < 16 || (bits .and .i64 (n : Int) ((n : Int) - 1) != 0) == !(okTo n 9)) = true := by decide +kernel
theorem bits_ok (W : Int) (h : 16 ≤ W) (h' : W ≤ 4096) : (bits .and .i64 W (W - 1) != 0) = !(okTo W 9) := by
  obtain ⟨n, rfl⟩ := Int.eq_ofNat_of_zero_le (show 0 ≤ W by omega)
  have := List.all_eq_true.1 pow_check n (by rw [List.mem_range]; omega)
  simp only [Bool.or_eq_true, decide_eq_true_eq, beq_iff_eq] at this
  rcases this with h1 | h1
  · omega
  · exact h1
theorem okTo_range (W : Int) (h : okTo W 9 = true) : 16 ≤ W ∧ W ≤ 4096 := by
  unfold okTo at h
  rw [List.any_eq_true] at h
  obtain ⟨m, hm, h⟩ := h
  rw [List.mem_range] at hm
  rw [beq_iff_eq] at h
  match m, hm with
  | 0, _ => omega
  | 1, _ => omega
  | 2, _ => omega
  | 3, _ => omega
  | 4, _ => omega
  | 5, _ => omega
  | 6, _ => omega
  | 7, _ => omega
  | 8, _ => omega
theorem new_yes (W : Int) (w : World) (h : okTo W 9 = true) :
    Calls Try.prog 13 #[.int .i64 W] w fun e w' => e = .returned (.tuple #[.pointer (some ⟨w.heap.size + 1, 0, none⟩), .nilIface]) ∧ IsSk w' w.heap.size (w.heap.size + 6) (w.heap.size + 1) (newB w.heap.size) (Sk.new W.toNat) ∧ Below w.heap.size w w' := by
  obtain ⟨h1, h2⟩ := okTo_range W h
  have hb := bits_ok W h1 h2
  rw [h] at hb
  obtain ⟨n, rfl⟩ := Int.eq_ofNat_of_zero_le (show 0 ≤ W by omega)
  exact (new_good n w (by omega) (by omega) hb).mono fun e w' ⟨he, L⟩ => ⟨he, L.sk (by omega) (by omega), L.bel⟩
theorem new_no (W : Int) (w : World) (h : okTo W 9 = false) :
    Calls Try.prog 13 #[.int .i64 W] w fun e w' => e = .returned (.tuple #[.pointer none, .iface 52 (.int .i64 1)]) ∧ w = w' := by
  by_cases h1 : W < 16 ∨ 4096 < W
  · exact new_bad W w h1
  · have hb := bits_ok W (by omega) (by omega)
    rw [h] at hb
    exact new_bad2 W w (by omega) (by omega) hb
theorem least_new (W : Nat) (l : List UInt8) : least (Sk.new W) l = 0 := by simp [least, leastTo, Sk.new]
theorem est_new (W : Nat) (l : List UInt8) : est (Sk.new W) l = 0 := by
  unfold est; rw [least_new]; rfl
end Go.Proofs.Ytkcnnkbfnelfjaa
