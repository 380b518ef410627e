import Derived.Test.YtkcnnkbfnelfjaaAdd
import Derived.Laws.BytesArg
import Derived.WideLaws
namespace Go.Proofs.Ytkcnnkbfnelfjaa
open Go.RowKit Sk
theorem run_two_bytes (W : World) (x y : Int) :
    (convert 26 9 (.slice (some ⟨W.heap.size, 0, none⟩) 2 2)).run Try.prog (W.alloc (.cells #[.int .u8 x, .int .u8 y] 5)) =
      .ok (.string ⟨#[UInt8.ofNat x.toNat, UInt8.ofNat y.toNat]⟩) (W.alloc (.cells #[.int .u8 x, .int .u8 y] 5)) :=
  run_convert_bytes_arg (W.alloc (.cells #[.int .u8 x, .int .u8 y] 5)) 26 5 Try.underlying26 Try.underlying5 W.heap.size 0 2 2 [x, y] rfl
    (fun i hi => by
      rw [World.cell?_alloc_new]
      match i, hi with
      | 0, _ => rfl
      | 1, _ => rfl) 9 Try.underlying9
def keyS (n : Nat) : ByteArray := ⟨#[UInt8.ofNat (97 + n % 8), UInt8.ofNat (48 + n % 40 / 8)]⟩
set_option maxHeartbeats 400000 in
theorem key_any (n : Int) (w : World) (h0 : 0 ≤ n) (h1 : n ≤ 255) :
    Calls Try.prog 17 #[.int .u8 n] w fun e w' => e = .returned (.string (keyS n.toNat)) ∧ Below w.heap.size w w' := by
  have hc := run_two_bytes
  go_enter Try.func17, Try.ntmps17
  go_wp2
  go_ret
  refine ⟨congrArg (fun x => Ending.returned (.string x)) ?_, (Below.refl _ _).alloc (Nat.le_refl _) _⟩
  obtain ⟨m, rfl⟩ := Int.eq_ofNat_of_zero_le h0
  unfold keyS
  rw [show (97 + (m : Int) % 8).toNat = 97 + m % 8 by omega, show (48 + (m : Int) % 40 / 8).toNat = 48 + m % 40 / 8 by omega]
  rfl
def wid (n : Nat) : Nat := 16 * 2 ^ (n % 4)
theorem wid_mem (n : Nat) : wid n = 16 ∨ wid n = 32 ∨ wid n = 64 ∨ wid n = 128 := by
  unfold wid
  have : n % 4 < 4 := Nat.mod_lt _ (by omega)
  match n % 4, this with
  | 0, _ => simp
  | 1, _ => simp
  | 2, _ => simp
  | 3, _ => simp
set_option maxHeartbeats 400000 in
theorem width_any (n : Int) (w : World) (h0 : 0 ≤ n) (h1 : n ≤ 255) :
    Calls Try.prog 14 #[.int .u8 n] w fun e w' => e = .returned (.int .i64 (wid n.toNat)) ∧ w = w' := by
  go_enter Try.func14, Try.ntmps14
  go_wp2
  go_ret
  refine ⟨congrArg (fun x => Ending.returned (.int .i64 x)) ?_, rfl⟩
  obtain ⟨m, rfl⟩ := Int.eq_ofNat_of_zero_le h0
  show wrap64 _ = _
  have hw := wid_mem m
  rw [show ((m : Int) % 4).toNat = m % 4 by omega, show (16 * 2 ^ (m % 4) : Int) = ((wid m : Nat) : Int) by unfold wid; simp]
  exact IntWalk.wrap64_in _ ⟨by omega, by omega⟩
set_option maxHeartbeats 400000 in
theorem num_nil (w : World) :
    Calls Try.prog 28 #[.nilIface] w fun e w' => e = .returned (.int .i64 0) ∧ w = w' := by
  go_enter Try.func28, Try.ntmps28
  go_wp2
  go_ret
  exact ⟨rfl, rfl⟩
theorem run_errno (n : Int) (w : World) : (Instr.typeAssert (.iface 52 (.int .i64 n)) 29 52 true).run Try.prog w = .ok (.tuple #[.int .i64 n, .bool true]) w := by kernel_rfl
set_option maxHeartbeats 400000 in
theorem num_errno (n : Int) (w : World) :
    Calls Try.prog 28 #[.iface 52 (.int .i64 n)] w fun e w' => e = .returned (.int .i64 n) ∧ w = w' := by
  have hr := run_errno
  go_enter Try.func28, Try.ntmps28
  go_wp2
  go_ret
  exact ⟨rfl, rfl⟩
theorem is_range (w : World) :
    Calls Try.prog 23 #[.iface 52 (.int .i64 1), .int .i64 1] w fun e w' => e = .returned (.bool true) ∧ w = w' := by
  go_enter Try.func23, Try.ntmps23
  go_wp2_with (go_at_call 28; refine (num_errno _ _).mono ?_; rintro e w' ⟨rfl, rfl⟩)
  go_ret
  exact ⟨rfl, rfl⟩
end Go.Proofs.Ytkcnnkbfnelfjaa
