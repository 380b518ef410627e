/-
  Layer 5: three digits, and the document's phrases.
-/
import Derived.Test.YtemlnmelicnneaaDoorHReas
namespace Go.Proofs.YtemlnmelicnneaaDoor
open Go.RowKit Syn Hd

namespace Hd
/-- Three digits. -/
def dg3 (n : Nat) : List UInt8 := [UInt8.ofNat (48 + n / 100), UInt8.ofNat (48 + n / 10 % 10), UInt8.ofNat (48 + n % 10)]
end Hd
open Hd
theorem run_three (w : World) (a b c : UInt8) :
    (convert 27 9 (Value.slice (some ⟨w.heap.size, 0, none⟩) 3 3)).run Tryd.prog (w.alloc (.cells #[.int .u8 (a.toNat : Int), .int .u8 (b.toNat : Int), .int .u8 (c.toNat : Int)] 5)) = Result.ok (Value.string (str [a, b, c])) (w.alloc (.cells #[.int .u8 (a.toNat : Int), .int .u8 (b.toNat : Int), .int .u8 (c.toNat : Int)] 5)) := by
  have hB := Blk.new w 5 #[.int .u8 (a.toNat : Int), .int .u8 (b.toNat : Int), .int .u8 (c.toNat : Int)]
  exact run_convert_bytes_back _ 27 9 5 ⟨w.heap.size, 0, none⟩ 3 [a, b, c] Tryd.underlying27 Tryd.underlying5 Tryd.underlying9 (fun j hj => by
    have hadd : (⟨w.heap.size, 0, none⟩ : Addr).add j = ⟨w.heap.size, j, none⟩ := by unfold Addr.add; split <;> simp_all
    rw [hadd, hB.cell j]
    match j, hj with
    | 0, _ => rfl
    | 1, _ => rfl
    | 2, _ => rfl)
theorem digit_byte {k : Nat} (h : k < 10) : ((UInt8.ofNat (48 + k)).toNat : Int) = 48 + (k : Int) := by
  rw [UInt8.toNat_ofNat_of_lt' (by show 48 + k < 256; omega)]; omega
set_option maxRecDepth 100000 in
set_option maxHeartbeats 2000000 in
theorem digits_any (n : Nat) (h : n < 1000) (w : World) : Calls Tryd.prog 32 #[.int .i64 (n : Int)] w fun e w' => e = .returned (.string (str (dg3 n))) ∧ Below w.heap.size w w' := by
  have hr := run_three w (UInt8.ofNat (48 + n / 100)) (UInt8.ofNat (48 + n / 10 % 10)) (UInt8.ofNat (48 + n % 10))
  rw [digit_byte (by omega), digit_byte (by omega), digit_byte (by omega)] at hr
  rw [show ((n / 100 : Nat) : Int) = (n : Int) / 100 by omega, show ((n / 10 % 10 : Nat) : Int) = (n : Int) / 10 % 10 by omega, show ((n % 10 : Nat) : Int) = (n : Int) % 10 by omega] at hr
  obtain ⟨L, hL⟩ : ∃ L, dg3 n = L := ⟨_, rfl⟩
  rw [show [UInt8.ofNat (48 + n / 100), UInt8.ofNat (48 + n / 10 % 10), UInt8.ofNat (48 + n % 10)] = L from hL] at hr
  replace hL := Lib.hid hL
  go_enter Tryd.func32, Tryd.ntmps32
  go_wp2
  go_ret
  exact ⟨by rw [hL.out]; rfl, (Below.refl _ _).alloc (Nat.le_refl _) _⟩
namespace Hd
/-- The document's list. -/
def items : List (List UInt8) := phr.map fun p => dg3 p.1 ++ 32 :: p.2
theorem items_at {k : Nat} (h : k < phr.length) : items[k]? = some (dg3 phr[k].1 ++ 32 :: phr[k].2) := by
  unfold items; rw [List.getElem?_map, List.getElem?_eq_getElem h]; rfl
theorem dg3_inj {a b : Nat} (ha : a < 1000) (hb : b < 1000) (h : dg3 a = dg3 b) : a = b := by
  unfold dg3 at h
  simp only [List.cons.injEq, and_true] at h
  have e : ∀ {x y : Nat}, x < 10 → y < 10 → UInt8.ofNat (48 + x) = UInt8.ofNat (48 + y) → x = y := fun hx hy h => by
    have := congrArg UInt8.toNat h
    rw [UInt8.toNat_ofNat_of_lt' (by show 48 + _ < 256; omega), UInt8.toNat_ofNat_of_lt' (by show 48 + _ < 256; omega)] at this
    omega
  have h1 := e (by omega) (by omega) h.1
  have h2 := e (by omega) (by omega) h.2.1
  have h3 := e (by omega) (by omega) h.2.2
  omega
theorem phr_len : phr.length = 34 := rfl
theorem phr_lt : ∀ p ∈ phr, 100 ≤ p.1 ∧ p.1 < 600 := by decide
theorem rsn_at {k : Nat} (h : k < phr.length) {s : Int} (hs : (phr[k].1 : Int) = s) (hn : ∀ i (hi : i < k), (phr[i]'(by omega)).1 ≠ phr[k].1) : rsn s = phr[k].2 := by
  unfold rsn lk
  have : phr.find? (fun p => decide ((p.1 : Int) = s)) = some phr[k] := by
    rw [List.find?_eq_some_iff_getElem]
    refine ⟨by simpa using hs, k, h, rfl, fun j hj => ?_⟩
    have := hn j hj
    simp
    omega
  rw [this]
theorem phr_inj : ∀ k (h : k < phr.length) i (hi : i < k), (phr[i]'(by omega)).1 ≠ phr[k].1 := by decide
end Hd
end Go.Proofs.YtemlnmelicnneaaDoor
