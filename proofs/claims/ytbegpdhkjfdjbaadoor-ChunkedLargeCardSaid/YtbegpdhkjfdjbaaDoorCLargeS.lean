/-
  Layer 7: a chunk that is too large. Plain Lean.
-/
import Derived.Test.YtbegpdhkjfdjbaaDoorCRetS
namespace Go.Proofs.YtbegpdhkjfdjbaaDoor
open Go.RowKit Syn

namespace Ck
theorem dig_large {k m T d : Nat} (hd : d < 16) (hk : k ≤ 7) (hT : 65536 < T + (16 * m + d)) : step ⟨0, k, m, k, T, 0, 0, [], [], 0⟩ (hxc d) = ⟨0, k + 1, 16 * m + d, k, T, 0, 0, [], [], 5⟩ := by
  have e := hxc_nat hd
  have h1 : (hxc d).toNat ≠ 13 ∧ (hxc d).toNat ≠ 59 := by split at e <;> omega
  unfold step sized
  dsimp only
  rw [if_pos (by omega), if_neg (fun h => h1.1 h.1), if_neg (by omega), if_neg (by omega), if_neg (fun h => h1.2 h.1), hexv_hxc hd]
  dsimp only
  rw [if_neg (by omega), if_pos hT]
theorem wr_large : ∀ (n T : Nat) (rest : List UInt8), T ≤ 65536 → 65536 < T + n → n ≤ 1000000 → ∃ s N, wr (fresh T 0) (hexs n ++ rest) = (s, [], N) ∧ s.bad = 5 ∧ s.place = 0 := by
  intro n
  induction n using Nat.strongRecOn with
  | _ n ih =>
    intro T rest hT h hn
    by_cases h1 : n < 16
    · rw [hexs_small h1]
      have e := dig_large (k := 0) (m := 0) (T := T) h1 (by omega) (by omega)
      rw [show (⟨0, 0, 0, 0, T, 0, 0, [], [], 0⟩ : St) = fresh T 0 from rfl] at e
      refine ⟨⟨0, 0 + 1, 16 * 0 + n, 0, T, 0, 0, [], [], 5⟩, 0, ?_, rfl, rfl⟩
      rw [List.singleton_append, wr_bad (by simp [fresh]) (by rw [e]; simp), e]
    · rw [hexs_big h1, List.append_assoc]
      by_cases h2 : 65536 < T + n / 16
      · exact ih (n / 16) (by omega) T ([hxc (n % 16)] ++ rest) hT h2 (by omega)
      · have hl := hexs_len 4 (n / 16) (by omega)
        rw [wr_append, wr_hexs (n / 16) T 0 (by omega)]
        have e := dig_large (k := (hexs (n / 16)).length) (m := n / 16) (d := n % 16) (T := T) (by omega) (by omega) (by omega)
        refine ⟨⟨0, (hexs (n / 16)).length + 1, 16 * (n / 16) + n % 16, (hexs (n / 16)).length, T, 0, 0, [], [], 5⟩, (hexs (n / 16)).length, ?_, rfl, rfl⟩
        simp only
        rw [List.singleton_append, wr_bad (by simp) (by rw [e]; simp), e]
        simp
/-- Two chunks that are too large together. -/
theorem wr_two_large {a b rest : List UInt8} (h : 65536 < a.length + b.length) (ha : a.length ≤ 65536) (hb : b.length ≤ 1000000) : ∃ s N, wr zero (chk a ++ (chk b ++ rest)) = (s, a, N) ∧ s.bad = 5 ∧ s.place ≠ 8 := by
  have hbe : b ≠ [] := by rintro rfl; simp at h; omega
  have h1 : wr zero (chk a) = (fresh a.length 0, a, (chk a).length) := by
    have := wr_chks [a] 0 (by simpa using ha)
    show wr (fresh 0 0) (chk a) = _
    simpa [chks] using this
  obtain ⟨s, N, hw, h5, h0⟩ := wr_large b.length a.length ([13, 10] ++ (b ++ [13, 10]) ++ rest) ha h hb
  have e : chk b ++ rest = hexs b.length ++ ([13, 10] ++ (b ++ [13, 10]) ++ rest) := by
    unfold chk
    rw [if_neg hbe]
    simp
  refine ⟨s, (chk a).length + N, ?_, h5, by omega⟩
  rw [wr_append, h1]
  simp only
  rw [e, hw]
  simp
end Ck
end Go.Proofs.YtbegpdhkjfdjbaaDoor
