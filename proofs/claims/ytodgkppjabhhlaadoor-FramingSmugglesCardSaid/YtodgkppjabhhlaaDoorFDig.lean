/-
  The law's decimal digits.
-/
import Derived.Test.YtodgkppjabhhlaaDoorFSpec
import Derived.Test.YtodgkppjabhhlaaDoorPush
import Derived.Test.YtodgkppjabhhlaaDoorLow
namespace Go.Proofs.YtodgkppjabhhlaaDoor
open Go.RowKit Syn Fr

/-- A decimal digit. -/
def digc (x : Nat) : UInt8 := UInt8.ofNat (48 + x % 10)
theorem digc_nat (x : Nat) : (digc x).toNat = 48 + x % 10 := by
  unfold digc
  rw [UInt8.toNat_ofNat']
  have := Nat.mod_lt x (show 10 > 0 by decide)
  omega
def dgp (n p : Nat) : Bytes := if p ≤ n then [digc (n / p)] else []
/-- The digits of a number below 100000. -/
def dg (n : Nat) : Bytes := dgp n 10000 ++ dgp n 1000 ++ dgp n 100 ++ dgp n 10 ++ [digc n]
theorem dgp_len (n p : Nat) : (dgp n p).length ≤ 1 := by unfold dgp; split <;> simp
theorem one_byte (x : Nat) (w : World) :
    (convert 45 9 (Value.slice (some ⟨w.heap.size, 0, none⟩) 1 1)).run Tryd.prog (w.alloc (.cells #[.int .u8 (48 + (x : Int) % 10)] 5)) = Result.ok (Value.string (str [digc x])) (w.alloc (.cells #[.int .u8 (48 + (x : Int) % 10)] 5)) := by
  have h := run_byte w (digc x)
  rw [show ((digc x).toNat : Int) = 48 + (x : Int) % 10 by rw [digc_nat]; omega] at h
  exact h
set_option maxRecDepth 100000 in
set_option maxHeartbeats 8000000 in
theorem digits_any (n : Nat) (hn : n < 100000) (w : World) :
    Calls Tryd.prog 18 #[.int .i64 (n : Int)] w fun e w' => e = .returned (.string (str (dg n))) ∧ Below w.heap.size w w' := by
  go_enter Tryd.func18, Tryd.ntmps18
  go_wp2
  go_loopw [3, 4] (fun s k wr => Hid (Below w.heap.size w wr) ∧ ∃ X : Bytes, s = .string (str X) ∧ X.length ≤ 4 ∧ ((k = .int .i64 10000 ∧ Hid (X = [])) ∨ (k = .int .i64 1000 ∧ Hid (X = dgp n 10000)) ∨ (k = .int .i64 100 ∧ Hid (X = dgp n 10000 ++ dgp n 1000)) ∨ (k = .int .i64 10 ∧ Hid (X = dgp n 10000 ++ dgp n 1000 ++ dgp n 100)) ∨ (k = .int .i64 1 ∧ Hid (X = dgp n 10000 ++ dgp n 1000 ++ dgp n 100 ++ dgp n 10)))) (fun _ k _ => (intOf k).toNat)
  case atStart => exact ⟨Below.refl _ _, [], rfl, by simp, .inl ⟨rfl, rfl⟩⟩
  case round =>
    obtain ⟨hB, X, rfl, hXl, hrel⟩ := hrel
    have hcv := fun x => one_byte x wr
    rcases hrel with ⟨rfl, hX⟩ | ⟨rfl, hX⟩ | ⟨rfl, hX⟩ | ⟨rfl, hX⟩ | ⟨rfl, hX⟩
    · by_cases h : 10000 ≤ n
      · have hsz : (str X).size + (str [digc (n / 10000)]).size ≤ 9223372036854775807 := by rw [str_size, str_size]; simp; omega
        have hq := Lib.hid (str_append X [digc (n / 10000)])
        have hcv1 := hcv (n / 10000)
        rw [show ((n / 10000 : Nat) : Int) = (n : Int) / 10000 by omega] at hcv1
        clear hcv
        have hd := Lib.hid (show X ++ [digc (n / 10000)] = dgp n 10000 by rw [hX.out, show dgp n 10000 = [digc (n / 10000)] from if_pos h]; rfl)
        have hl := Lib.hid (show (X ++ [digc (n / 10000)]).length ≤ 4 by rw [hd.out]; exact (by (try simp only [List.length_append]); have := dgp_len n 10000; have := dgp_len n 1000; have := dgp_len n 100; have := dgp_len n 10; omega))
        go_wp2
        go_roundw
        case rel => exact ⟨Lib.hid (hB.out.alloc hB.out.size _), X ++ [digc (n / 10000)], by rw [← hq.out], hl.out, .inr (.inl ⟨rfl, Lib.hid (hd.out)⟩)⟩
        case measure => first | (simp [intOf]; done) | (simp [intOf]; omega) | decide
      · have hd := Lib.hid (show X = dgp n 10000 by rw [hX.out, show dgp n 10000 = [] from if_neg h])
        clear hcv
        go_wp2
        go_roundw
        case rel => exact ⟨hB, X, rfl, hXl, .inr (.inl ⟨rfl, Lib.hid (hd.out)⟩)⟩
        case measure => first | (simp [intOf]; done) | (simp [intOf]; omega) | decide
    · by_cases h : 1000 ≤ n
      · have hsz : (str X).size + (str [digc (n / 1000)]).size ≤ 9223372036854775807 := by rw [str_size, str_size]; simp; omega
        have hq := Lib.hid (str_append X [digc (n / 1000)])
        have hcv1 := hcv (n / 1000)
        rw [show ((n / 1000 : Nat) : Int) = (n : Int) / 1000 by omega] at hcv1
        clear hcv
        have hd := Lib.hid (show X ++ [digc (n / 1000)] = dgp n 10000 ++ dgp n 1000 by rw [hX.out, show dgp n 1000 = [digc (n / 1000)] from if_pos h])
        have hl := Lib.hid (show (X ++ [digc (n / 1000)]).length ≤ 4 by rw [hd.out]; exact (by (try simp only [List.length_append]); have := dgp_len n 10000; have := dgp_len n 1000; have := dgp_len n 100; have := dgp_len n 10; omega))
        go_wp2
        go_roundw
        case rel => exact ⟨Lib.hid (hB.out.alloc hB.out.size _), X ++ [digc (n / 1000)], by rw [← hq.out], hl.out, .inr (.inr (.inl ⟨rfl, Lib.hid (hd.out)⟩))⟩
        case measure => first | (simp [intOf]; done) | (simp [intOf]; omega) | decide
      · have hd := Lib.hid (show X = dgp n 10000 ++ dgp n 1000 by rw [hX.out, show dgp n 1000 = [] from if_neg h]; simp)
        clear hcv
        go_wp2
        go_roundw
        case rel => exact ⟨hB, X, rfl, hXl, .inr (.inr (.inl ⟨rfl, Lib.hid (hd.out)⟩))⟩
        case measure => first | (simp [intOf]; done) | (simp [intOf]; omega) | decide
    · by_cases h : 100 ≤ n
      · have hsz : (str X).size + (str [digc (n / 100)]).size ≤ 9223372036854775807 := by rw [str_size, str_size]; simp; omega
        have hq := Lib.hid (str_append X [digc (n / 100)])
        have hcv1 := hcv (n / 100)
        rw [show ((n / 100 : Nat) : Int) = (n : Int) / 100 by omega] at hcv1
        clear hcv
        have hd := Lib.hid (show X ++ [digc (n / 100)] = dgp n 10000 ++ dgp n 1000 ++ dgp n 100 by rw [hX.out, show dgp n 100 = [digc (n / 100)] from if_pos h])
        have hl := Lib.hid (show (X ++ [digc (n / 100)]).length ≤ 4 by rw [hd.out]; exact (by (try simp only [List.length_append]); have := dgp_len n 10000; have := dgp_len n 1000; have := dgp_len n 100; have := dgp_len n 10; omega))
        go_wp2
        go_roundw
        case rel => exact ⟨Lib.hid (hB.out.alloc hB.out.size _), X ++ [digc (n / 100)], by rw [← hq.out], hl.out, .inr (.inr (.inr (.inl ⟨rfl, Lib.hid (hd.out)⟩)))⟩
        case measure => first | (simp [intOf]; done) | (simp [intOf]; omega) | decide
      · have hd := Lib.hid (show X = dgp n 10000 ++ dgp n 1000 ++ dgp n 100 by rw [hX.out, show dgp n 100 = [] from if_neg h]; simp)
        clear hcv
        go_wp2
        go_roundw
        case rel => exact ⟨hB, X, rfl, hXl, .inr (.inr (.inr (.inl ⟨rfl, Lib.hid (hd.out)⟩)))⟩
        case measure => first | (simp [intOf]; done) | (simp [intOf]; omega) | decide
    · by_cases h : 10 ≤ n
      · have hsz : (str X).size + (str [digc (n / 10)]).size ≤ 9223372036854775807 := by rw [str_size, str_size]; simp; omega
        have hq := Lib.hid (str_append X [digc (n / 10)])
        have hcv1 := hcv (n / 10)
        rw [show ((n / 10 : Nat) : Int) = (n : Int) / 10 by omega] at hcv1
        clear hcv
        have hd := Lib.hid (show X ++ [digc (n / 10)] = dgp n 10000 ++ dgp n 1000 ++ dgp n 100 ++ dgp n 10 by rw [hX.out, show dgp n 10 = [digc (n / 10)] from if_pos h])
        have hl := Lib.hid (show (X ++ [digc (n / 10)]).length ≤ 4 by rw [hd.out]; exact (by (try simp only [List.length_append]); have := dgp_len n 10000; have := dgp_len n 1000; have := dgp_len n 100; have := dgp_len n 10; omega))
        go_wp2
        go_roundw
        case rel => exact ⟨Lib.hid (hB.out.alloc hB.out.size _), X ++ [digc (n / 10)], by rw [← hq.out], hl.out, .inr (.inr (.inr (.inr (⟨rfl, Lib.hid (hd.out)⟩))))⟩
        case measure => first | (simp [intOf]; done) | (simp [intOf]; omega) | decide
      · have hd := Lib.hid (show X = dgp n 10000 ++ dgp n 1000 ++ dgp n 100 ++ dgp n 10 by rw [hX.out, show dgp n 10 = [] from if_neg h]; simp)
        clear hcv
        go_wp2
        go_roundw
        case rel => exact ⟨hB, X, rfl, hXl, .inr (.inr (.inr (.inr (⟨rfl, Lib.hid (hd.out)⟩))))⟩
        case measure => first | (simp [intOf]; done) | (simp [intOf]; omega) | decide
    · have hsz : (str X).size + (str [digc n]).size ≤ 9223372036854775807 := by rw [str_size, str_size]; simp; omega
      have hq := Lib.hid (str_append X [digc n])
      have hcv1 := hcv n
      clear hcv
      have hfin := Lib.hid (show dg n = X ++ [digc n] by unfold dg; rw [hX.out])
      go_wp2
      go_ret
      exact ⟨by rw [hfin.out, ← hq.out]; rfl, hB.out.alloc hB.out.size _⟩
end Go.Proofs.YtodgkppjabhhlaaDoor
