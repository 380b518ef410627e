/-
  Layer 7: chunks and the machine. Plain Lean.
-/
import Derived.Test.YtbegpdhkjfdjbaaDoorCRun
namespace Go.Proofs.YtbegpdhkjfdjbaaDoor
open Go.RowKit Syn

namespace Ck
/-- A digit's byte. -/
def hxc (d : Nat) : UInt8 := if d < 10 then UInt8.ofNat (48 + d) else UInt8.ofNat (87 + d)
theorem hxc_nat {d : Nat} (h : d < 16) : (hxc d).toNat = if d < 10 then 48 + d else 87 + d := by
  unfold hxc
  split
  · exact UInt8.toNat_ofNat_of_lt' (by show 48 + d < 256; omega)
  · exact UInt8.toNat_ofNat_of_lt' (by show 87 + d < 256; omega)
theorem hexv_hxc {d : Nat} (h : d < 16) : hexv (hxc d) = some d := by
  have e := hxc_nat h
  unfold hexv
  by_cases h1 : d < 10
  · rw [if_pos h1] at e; rw [if_pos (by omega), e]; congr 1; omega
  · rw [if_neg h1] at e; rw [if_neg (by omega), if_pos (by omega), e]; congr 1; omega
/-- The hexadecimal digits of a number. -/
def hexs (n : Nat) : List UInt8 := if n < 16 then [hxc n] else hexs (n / 16) ++ [hxc (n % 16)]
termination_by n
theorem hexs_small {n : Nat} (h : n < 16) : hexs n = [hxc n] := by rw [hexs, if_pos h]
theorem hexs_big {n : Nat} (h : ¬ n < 16) : hexs n = hexs (n / 16) ++ [hxc (n % 16)] := by rw [hexs, if_neg h]
theorem hexs_pos (n : Nat) : 0 < (hexs n).length := by
  rw [hexs]; split <;> simp
theorem hexs_len : ∀ (m n : Nat), n < 16 ^ (m + 1) → (hexs n).length ≤ m + 1
  | m, n, h => by
    by_cases h1 : n < 16
    · rw [hexs_small h1]; simp
    · rw [hexs_big h1, List.length_append, List.length_singleton]
      match m with
      | 0 => omega
      | m + 1 =>
        have := hexs_len m (n / 16) (by rw [Nat.pow_succ] at h; exact Nat.div_lt_of_lt_mul (by omega))
        omega
theorem hexs_five {n : Nat} (h : n ≤ 65536) : (hexs n).length ≤ 5 := hexs_len 4 n (by omega)
theorem wr_nil (s : St) : wr s [] = (s, [], 0) := rfl
theorem wr_single {s : St} {c : UInt8} (h : ¬ (s.bad ≠ 0 ∨ s.place = 8)) (hb : (step s c).bad = 0) : wr s [c] = (step s c, (if s.place = 3 then [c] else []), 1) := by
  rw [wr_go h (by omega)]
  rfl
/-- A state at the beginning of a size line. -/
def fresh (T lf : Nat) : St := ⟨0, 0, 0, 0, T, lf, 0, [], [], 0⟩
theorem wr_hexs : ∀ (n T lf : Nat), T + n ≤ 65536 → wr (fresh T lf) (hexs n) = (⟨0, (hexs n).length, n, (hexs n).length, T, lf, 0, [], [], 0⟩, [], (hexs n).length) := by
  intro n
  induction n using Nat.strongRecOn with
  | _ n ih =>
    intro T lf h
    have dig : ∀ (m d : Nat) (k : Nat), d < 16 → k ≤ 4 → T + (16 * m + d) ≤ 65536 → step ⟨0, k, m, k, T, lf, 0, [], [], 0⟩ (hxc d) = ⟨0, k + 1, 16 * m + d, k + 1, T, lf, 0, [], [], 0⟩ := by
      intro m d k hd hk hT
      have e := hxc_nat hd
      have h1 : (hxc d).toNat ≠ 13 ∧ (hxc d).toNat ≠ 59 := by split at e <;> omega
      unfold step sized
      dsimp only
      rw [if_pos (by omega), if_neg (fun h => h1.1 h.1), if_neg (by omega), if_neg (by omega), if_neg (fun h => h1.2 h.1), hexv_hxc hd]
      dsimp only
      rw [if_neg (by omega), if_neg (by omega)]
    by_cases h1 : n < 16
    · rw [hexs_small h1]
      have e := dig 0 n 0 h1 (by omega) (by omega)
      rw [show (⟨0, 0, 0, 0, T, lf, 0, [], [], 0⟩ : St) = fresh T lf from rfl] at e
      rw [wr_single (by simp [fresh]) (by rw [e]), e, if_neg (by simp [fresh])]
      simp
    · have hl := hexs_five (n := n / 16) (by omega)
      have hl2 := hexs_five (n := n) (by omega)
      rw [hexs_big h1, List.length_append, List.length_singleton] at hl2
      rw [hexs_big h1, wr_append, ih (n / 16) (by omega) T lf (by omega)]
      dsimp only
      have e := dig (n / 16) (n % 16) (hexs (n / 16)).length (by omega) (by omega) (by omega)
      rw [show 16 * (n / 16) + n % 16 = n by omega] at e
      rw [wr_single (by simp) (by rw [e]), e, if_neg (by simp)]
      simp
/-- A chunk. -/
def chk (b : List UInt8) : List UInt8 := if b = [] then [] else hexs b.length ++ ([13, 10] ++ (b ++ [13, 10]))
theorem wr_two {s : St} {a b : UInt8} {s1 s2 : St} (h : ¬ (s.bad ≠ 0 ∨ s.place = 8)) (h3 : s.place ≠ 3) (e1 : step s a = s1) (h1 : ¬ (s1.bad ≠ 0 ∨ s1.place = 8)) (h13 : s1.place ≠ 3) (e2 : step s1 b = s2) (h2 : s2.bad = 0) : wr s [a, b] = (s2, [], 2) := by
  rw [wr_go h (by rw [e1]; omega), if_neg h3, e1, wr_single h1 (by rw [e2]; exact h2), e2, if_neg h13]
theorem wr_size {n T lf : Nat} (h : T + n ≤ 65536) (h1 : 1 ≤ n) : wr (fresh T lf) (hexs n ++ [13, 10]) = (⟨3, (hexs n).length, n, (hexs n).length, T, n, 0, [], [], 0⟩, [], (hexs n).length + 2) := by
  have hp := hexs_pos n
  rw [wr_append, wr_hexs n T lf h]
  dsimp only
  rw [wr_two (s1 := ⟨2, (hexs n).length, n, (hexs n).length, T, lf, 0, [], [], 0⟩) (s2 := ⟨3, (hexs n).length, n, (hexs n).length, T, n, 0, [], [], 0⟩) (by simp) (by simp) ?_ (by simp) (by simp) ?_ rfl]
  · simp
  · unfold step sized; dsimp only; rw [if_pos (by omega), if_pos ⟨by decide, hp⟩]
  · unfold step; dsimp only; rw [if_neg (by omega), if_pos rfl, if_neg (by decide), if_neg (by omega)]
theorem wr_chunk {b : List UInt8} {T lf : Nat} (h : T + b.length ≤ 65536) (h1 : 1 ≤ b.length) : wr (fresh T lf) (chk b) = (fresh (T + b.length) 0, b, (chk b).length) := by
  unfold chk
  rw [if_neg (by rintro rfl; simp at h1), ← List.append_assoc, wr_append, wr_size h h1]
  dsimp only
  rw [wr_append, wr_dat b _ rfl rfl h1 (Nat.le_refl _)]
  dsimp only
  have e : dat ⟨3, (hexs b.length).length, b.length, (hexs b.length).length, T, b.length, 0, [], [], 0⟩ b.length = ⟨4, (hexs b.length).length, b.length, (hexs b.length).length, T + b.length, 0, 0, [], [], 0⟩ := by unfold dat; rw [if_pos rfl]
  rw [e, wr_two (s1 := ⟨5, (hexs b.length).length, b.length, (hexs b.length).length, T + b.length, 0, 0, [], [], 0⟩) (s2 := fresh (T + b.length) 0) (by simp) (by simp) rfl (by simp) (by simp) rfl rfl]
  simp only [List.nil_append, List.append_nil, List.length_append, List.length_cons, List.length_nil]
end Ck
end Go.Proofs.YtbegpdhkjfdjbaaDoor
