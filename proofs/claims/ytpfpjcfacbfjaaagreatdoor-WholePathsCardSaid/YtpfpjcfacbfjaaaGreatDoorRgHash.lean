/-
  Layer 18: the hash, the code's and the document's.
-/
import Derived.Test.YtpfpjcfacbfjaaaGreatDoorBase
import Derived.WalkKit
import Derived.WalkSpells
import Derived.WalkLawsBesides
import Derived.Lib.Hide
namespace Go.Proofs.YtpfpjcfacbfjaaaGreatDoor
open Go.RowKit
namespace Sk
def hstep (x b : Int) : Int := IntKind.u64.wrap (bits .xor .u64 x b * 1099511628211)
def sh (seed : Int) (k : Nat) : Int := seed / 256 ^ k
def hseed (seed : Int) : Nat → Int
  | 0 => 14695981039346656037
  | k + 1 => hstep (hseed seed k) (bits .and .u64 (sh seed k) 255)
def hbytes (x : Int) (l : List UInt8) : Int := l.foldl (fun x c => hstep x (IntKind.u64.wrap (c.toNat : Int))) x
def hash (seed : Int) (l : List UInt8) : Int := bits .xor .u64 (hbytes (hseed seed 8) l) (hbytes (hseed seed 8) l / 4294967296)
theorem sh_zero (seed : Int) : sh seed 0 = seed := by simp [sh]
theorem sh_succ (seed : Int) (k : Nat) : sh seed k / 256 = sh seed (k + 1) := by
  unfold sh; rw [Int.pow_succ, Int.ediv_ediv_of_nonneg (by exact Int.le_of_lt (Int.pow_pos (by omega)))]
theorem hbytes_snoc (x : Int) (l : List UInt8) (k : Nat) (c : UInt8) (h : l[k]? = some c) : hstep (hbytes x (l.take k)) (IntKind.u64.wrap (c.toNat : Int)) = hbytes x (l.take (k+1)) := by
  unfold hbytes; rw [List.take_add_one, h, Option.toList_some, List.foldl_append]; rfl
end Sk
open Sk
set_option maxHeartbeats 400000 in
theorem hash_any (seed : Int) (s : ByteArray) (w : World) (hs : s.size ≤ maxLen):
    Calls Tryz.prog 23 #[.int .u64 seed, .string s] w fun e w' => e = .returned (.int .u64 (hash seed s.data.toList)) ∧ w = w' := by
  unfold maxLen at hs
  go_enter Tryz.func23, Tryz.ntmps23
  go_wp2
  go_loop [0, 5, 7] (fun a b i => ∃ (k : Nat), a = .int .u64 (sh seed k) ∧ b = .int .u64 (hseed seed k) ∧ i = .int .i64 k ∧ k ≤ 8) (fun _ _ i => 8 - (intOf i).toNat)
  case atStart => exact ⟨0, by rw [sh_zero], rfl, rfl, by omega⟩
  case round =>
    obtain ⟨k, rfl, rfl, rfl, hk⟩ := hrel
    by_cases hlt : k < 8
    · go_wp2
      go_round
      case rel => exact ⟨k + 1, by rw [sh_succ], rfl, by go_num, by omega⟩
      case measure => simp [intOf]; omega
    · obtain rfl : k = 8 := by omega
      go_wp2
      go_loop [5, 6, 19] (fun a j i => ∃ (k : Nat), a = .int .u64 (hbytes (hseed seed 8) (s.data.toList.take k)) ∧ i = .int .i64 k ∧ k ≤ s.size) (fun _ _ i => s.size - (intOf i).toNat)
      case atStart => exact ⟨0, rfl, rfl, by omega⟩
      case round =>
        rename_i vj v
        obtain ⟨k, rfl, rfl, hk⟩ := hrel
        by_cases hlt : k < s.size
        · have hb := Lib.hid (hbytes_snoc (hseed seed 8) s.data.toList k s[k] (byte_at s k hlt))
          go_wp2
          go_round
          case rel => exact ⟨k + 1, by rw [← hb.out]; rfl, by go_num, by omega⟩
          case measure => simp [intOf]; omega
        · obtain rfl : k = s.size := by omega
          go_wp2
          go_ret
          refine ⟨?_, rfl⟩
          have e : s.data.toList.take s.size = s.data.toList := List.take_of_length_le (by simp)
          rw [e]
          rfl
end Go.Proofs.YtpfpjcfacbfjaaaGreatDoor
