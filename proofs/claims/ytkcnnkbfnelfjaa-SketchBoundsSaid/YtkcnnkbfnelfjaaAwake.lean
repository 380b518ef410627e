import Derived.Test.YtkcnnkbfnelfjaaNew
import Derived.Test.YtkcnnkbfnelfjaaKey
namespace Go.Proofs.Ytkcnnkbfnelfjaa
open Go.RowKit Sk
def adds (s : S) (l : List (List UInt8)) : S := l.foldl add s
theorem adds_snoc (s : S) (l : List (List UInt8)) (x : List UInt8) : adds s (l ++ [x]) = add (adds s l) x := by simp [adds]
theorem raw_added (s : S) (l : List UInt8) : (raw s l).added = s.added := by unfold raw; split <;> (try split) <;> rfl
theorem add_added (s : S) (l : List UInt8) : (add s l).added = s.added + 1 := by
  unfold add
  split
  · show (raw s l).added + 1 = _; rw [raw_added]
  · show (raw s l).added + 1 = _; rw [raw_added]
theorem adds_added : ∀ (l : List (List UInt8)) (s : S), (adds s l).added = s.added + l.length
  | [], s => rfl
  | x :: l, s => by
    have := adds_added l (add s x)
    rw [add_added] at this
    show (adds (add s x) l).added = _
    rw [this]; simp; omega
theorem below_drewN {B : Nat} {a w : World} (h : Below B a w) (n : Nat) : Below B a (w.drewN n) := ⟨h.os, h.tape, h.output, h.size, h.block⟩
theorem three : est (adds (Sk.new 16) [[97], [97], [97]]) [97] = 3 := by decide +kernel
def newB (b : Nat) (i : Nat) : Nat := if i < 4 then b + 2 + i else b
def aS : ByteArray := ⟨#[97]⟩
theorem new_16 (W : Nat) (w : World) (h : W = 16 ∨ W = 32 ∨ W = 64 ∨ W = 128) :
    Calls Try.prog 13 #[.int .i64 W] w fun e w' => e = .returned (.tuple #[.pointer (some ⟨w.heap.size + 1, 0, none⟩), .nilIface]) ∧ IsSk w' w.heap.size (w.heap.size + 6) (w.heap.size + 1) (newB w.heap.size) (Sk.new W) ∧ Below w.heap.size w w' := by
  have hb : (bits .and .i64 (W : Int) ((W : Int) - 1) != 0) = false := by
    rcases h with rfl | rfl | rfl | rfl <;> decide +kernel
  exact (new_good W w (by omega) (by omega) hb).mono fun e w' ⟨he, L⟩ => ⟨he, L.sk (by omega) (by omega), L.bel⟩
set_option maxHeartbeats 400000 in
theorem awake_any (w : World) : Calls Try.prog 10 #[] w fun e w' => e = .returned (.bool true) ∧ Below w.heap.size w w' := by
  have h3 := Lib.hid three
  go_enter Try.func10, Try.ntmps10
  go_wp2_with (first | (go_at_call 13; refine (new_16 16 _ (.inl rfl)).mono ?_; rintro e w' ⟨rfl, h, hb⟩))
  go_loopw [13] (fun i wr => ∃ n : Nat, n ≤ 3 ∧ i = .int .i64 n ∧ IsSk wr w.heap.size (w.heap.size + 6) (w.heap.size + 1) (newB w.heap.size) (adds (Sk.new 16) (List.replicate n [97])) ∧ Below w.heap.size w wr) (fun i _ => 3 - (intOf i).toNat)
  case atStart => exact ⟨0, by omega, rfl, h, hb⟩
  case round =>
    rename_i v1
    obtain ⟨n, hn, rfl, h', hb'⟩ := hrel
    by_cases hlt : n < 3
    · have ha := adds_added (List.replicate n [97]) (Sk.new 16)
      have hadd : (adds (Sk.new 16) (List.replicate n [97])).added < 999999999 := by rw [ha]; simp [Sk.new]; omega
      clear ha
      go_wp2_with (first | (go_at_call 16; refine (add_any aS _ h' (by decide) hadd).mono ?_; rintro e w' ⟨rfl, h2, hin⟩))
      go_roundw
      case rel => exact ⟨n + 1, by omega, by go_num, by rw [List.replicate_succ', adds_snoc]; exact h2, hb'.trans (hin.below (by have := h'.hs; omega))⟩
      case measure => simp [intOf]; omega
    · obtain rfl : n = 3 := by omega
      go_wp2_with (first | (go_at_call 19; refine (est_any aS _ h' (by decide)).mono ?_; rintro e w' ⟨rfl, m, rfl⟩) | (go_at_call 21; refine (added_any _ (h'.drewN _)).mono ?_; rintro e w' ⟨rfl, m2, rfl⟩))
      · go_ret
        refine ⟨congrArg (fun x => Ending.returned (.bool x)) ?_, below_drewN hb' _⟩
        show (((adds (Sk.new 16) (List.replicate 3 [97])).added : Int) == 3) = true
        rw [adds_added]; rfl

end Go.Proofs.Ytkcnnkbfnelfjaa
