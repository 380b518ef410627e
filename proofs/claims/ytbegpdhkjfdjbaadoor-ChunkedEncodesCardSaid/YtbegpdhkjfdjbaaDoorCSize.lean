/-
  Layer 7: the document's Size.
-/
import Derived.Test.YtbegpdhkjfdjbaaDoorCHexW
namespace Go.Proofs.YtbegpdhkjfdjbaaDoor
open Go.RowKit Syn Ck

namespace Ck
def digs16 : ByteArray := ⟨#[48, 49, 50, 51, 52, 53, 54, 55, 56, 57, 97, 98, 99, 100, 101, 102]⟩
theorem digs16_at : ∀ (d : Fin 16), digs16.extract d.1 (d.1 + 1) = str [hxc d.1] := by
  intro d
  rw [extract_str]
  congr 1
  revert d
  decide
/-- In the loop of Size. -/
def SI (n : Nat) (_ : World) (nv ov : Value) : Prop := ∃ (u : Nat) (suf : List UInt8), nv = .int .i64 (u : Int) ∧ ov = .string (str (hxc (u % 16) :: suf)) ∧ u ≤ n ∧ Hid (hexs n = hexs u ++ suf)
end Ck
set_option maxRecDepth 100000 in
set_option maxHeartbeats 4000000 in
theorem rsize_any (n : Nat) (w : World) (hn : n < 1000000) :
    Calls Tryd.prog 36 #[.int .i64 (n : Int)] w fun e w' => e = .returned (.string (str (hexs n))) ∧ ∃ m, w' = w.drewN m := by
  obtain ⟨d0, hd0⟩ : ∃ d, n % 16 = d := ⟨_, rfl⟩
  have h16 : d0 < 16 := by omega
  have hm1 : (n : Int) % 16 = (d0 : Int) := by omega
  have hm0 : Int.tmod (n : Int) 16 = (d0 : Int) := by rw [Int.tmod_eq_emod_of_nonneg (by omega)]; exact hm1
  have hx0 : (⟨#[48, 49, 50, 51, 52, 53, 54, 55, 56, 57, 97, 98, 99, 100, 101, 102]⟩ : ByteArray).extract d0 (d0 + 1) = str [hxc d0] := digs16_at ⟨d0, h16⟩
  replace hd0 := Lib.hid hd0
  go_enter Tryd.func36, Tryd.ntmps36
  have hst : SI n w (.int .i64 (n : Int)) (.string (str [hxc d0])) := ⟨n, [], rfl, by rw [hd0.out], Nat.le_refl _, Lib.hid (by rw [List.append_nil])⟩
  go_wp2
  go_loopw [0, 3] (fun nv ov wx => SI n w nv ov ∧ ∃ m, wx = w.drewN m) (fun nv _ _ => (intOf nv).toNat)
  case atStart => exact ⟨hst, 0, rfl⟩
  case round =>
    clear hst hx0 hm0 hm1 hd0
    obtain ⟨⟨u, suf, rfl, rfl, hun, hhx⟩, m, hw⟩ := hrel
    replace hw := Lib.hid hw
    by_cases hu : u < 16
    · have hh : str (hxc (u % 16) :: suf) = str (hexs n) := by rw [hhx.out, hexs_small hu, Nat.mod_eq_of_lt hu]; rfl
      rw [hh]
      go_wp2
      go_ret
      exact ⟨rfl, m, hw.out⟩
    · obtain ⟨v, hv⟩ : ∃ v, u / 16 = v := ⟨_, rfl⟩
      obtain ⟨d, hd⟩ : ∃ d, v % 16 = d := ⟨_, rfl⟩
      have hd16 : d < 16 := by omega
      have hvi : (u : Int) / 16 = (v : Int) := by omega
      have hvt : Int.tdiv (u : Int) 16 = (v : Int) := by rw [Int.tdiv_eq_ediv_of_nonneg (by omega)]; exact hvi
      have hm1 : (v : Int) % 16 = (d : Int) := by omega
      have hm0 : Int.tmod (v : Int) 16 = (d : Int) := by rw [Int.tmod_eq_emod_of_nonneg (by omega)]; exact hm1
      have hx0 : (⟨#[48, 49, 50, 51, 52, 53, 54, 55, 56, 57, 97, 98, 99, 100, 101, 102]⟩ : ByteArray).extract d (d + 1) = str [hxc d] := digs16_at ⟨d, hd16⟩
      have hnew : SI n w (.int .i64 (v : Int)) (.string (str [hxc d] ++ str (hxc (u % 16) :: suf))) := ⟨v, hxc (u % 16) :: suf, rfl, by rw [str_append, hd]; rfl, by omega, Lib.hid (by rw [hhx.out, hexs_big hu, hv, List.append_assoc]; rfl)⟩
      have hvu : v < u := by omega
      have hl1 := hexs_len 7 n (by omega)
      have hl2 : (hxc (u % 16) :: suf).length ≤ 20 := by
        have h := congrArg List.length hhx.out
        rw [List.length_append] at h
        have := hexs_pos u
        rw [List.length_cons]; omega
      have hs1 := str_size [hxc d]
      have hs2 := str_size (hxc (u % 16) :: suf)
      generalize str (hxc (u % 16) :: suf) = so at *
      generalize (hxc (u % 16) :: suf).length = ln at *
      replace hv := Lib.hid hv
      replace hd := Lib.hid hd
      replace hnew := Lib.hid hnew
      replace hhx := Lib.hid hhx
      go_wp2
      exact ⟨⟨hnew.out, m, hw.out⟩, by simp only [intOf]; omega⟩
end Go.Proofs.YtbegpdhkjfdjbaaDoor
