/-
  Layer 7: spoilt chunks. Plain Lean.
-/
import Derived.Test.YtbegpdhkjfdjbaaDoorCHex
namespace Go.Proofs.YtbegpdhkjfdjbaaDoor
open Go.RowKit Syn

namespace Ck
theorem wr_chk0 (b : List UInt8) (h : b.length ≤ 65536) : wr zero (chk b) = (fresh b.length 0, b, (chk b).length) := by
  by_cases h0 : b = []
  · subst h0; rfl
  · have h1 : 1 ≤ b.length := by
      rcases Nat.eq_zero_or_pos b.length with e | e
      · exact absurd (List.eq_nil_of_length_eq_zero e) h0
      · exact e
    have := wr_chunk (b := b) (T := 0) (lf := 0) (by omega) h1
    rw [Nat.zero_add] at this
    exact this
/-- A bad byte behind good ones. -/
theorem wr_spoil {s s1 : St} {pre rest d : List UInt8} {c : UInt8} (h : wr s pre = (s1, d, pre.length)) (h1 : ¬ (s1.bad ≠ 0 ∨ s1.place = 8)) (h2 : (step s1 c).bad ≠ 0) : wr s (pre ++ c :: rest) = (step s1 c, d, pre.length) := by
  rw [wr_append, h]
  dsimp only
  rw [wr_bad h1 h2]
  simp
theorem wr_pre {b : List UInt8} {T : Nat} (h : T + b.length ≤ 65536) (h1 : 1 ≤ b.length) :
    wr (fresh T 0) (hexs b.length ++ [13, 10] ++ b) = (⟨4, (hexs b.length).length, b.length, (hexs b.length).length, T + b.length, 0, 0, [], [], 0⟩, b, (hexs b.length ++ [13, 10] ++ b).length) := by
  rw [wr_append, wr_size h h1]
  dsimp only
  rw [wr_dat b _ rfl rfl h1 (Nat.le_refl _)]
  have e : dat ⟨3, (hexs b.length).length, b.length, (hexs b.length).length, T, b.length, 0, [], [], 0⟩ b.length = ⟨4, (hexs b.length).length, b.length, (hexs b.length).length, T + b.length, 0, 0, [], [], 0⟩ := by unfold dat; rw [if_pos rfl]
  rw [e]
  simp
  omega
theorem wr_pre2 {b : List UInt8} {T : Nat} (h : T + b.length ≤ 65536) (h1 : 1 ≤ b.length) :
    wr (fresh T 0) (hexs b.length ++ [13, 10] ++ b ++ [13]) = (⟨5, (hexs b.length).length, b.length, (hexs b.length).length, T + b.length, 0, 0, [], [], 0⟩, b, (hexs b.length ++ [13, 10] ++ b ++ [13]).length) := by
  rw [wr_append, wr_pre h h1]
  dsimp only
  rw [wr_single (by simp) rfl, if_neg (by simp)]
  have e2 : (hexs b.length ++ [13, 10] ++ b ++ [13]).length = (hexs b.length ++ [13, 10] ++ b).length + 1 := by rw [List.length_append]; rfl
  rw [e2]
  show (_, b ++ [], _) = _
  rw [List.append_nil]
  rfl
theorem step_hex_bad {n T : Nat} (c : UInt8) (h : n ≤ 65536) (hc : hexv c = none) (h1 : c.toNat ≠ 13) (h2 : c.toNat ≠ 59) :
    step ⟨0, (hexs n).length, n, (hexs n).length, T, 0, 0, [], [], 0⟩ c = ⟨0, (hexs n).length, n, (hexs n).length, T, 0, 0, [], [], 33⟩ := by
  have := hexs_five h
  unfold step sized
  dsimp only
  rw [if_pos (by omega), if_neg (fun h => h1 h.1), if_neg (by omega), if_neg (by omega), if_neg (fun h => h2 h.1), hc]
  rfl
/-- The spoilt input, and how many bytes are taken. -/
def spoil (b : List UInt8) (k : Nat) : List UInt8 :=
  match k with
  | 0 => (chk b).take ((chk b).length - 2) ++ 120 :: (chk b).drop ((chk b).length - 2)
  | 1 => (chk b).take (hexs b.length).length ++ 10 :: (chk b).drop ((hexs b.length).length + 2)
  | 2 => (chk b).take (hexs b.length).length ++ 32 :: (chk b).drop (hexs b.length).length
  | 3 => (chk b).take ((chk b).length - 2) ++ [10]
  | _ => (chk b).take ((chk b).length - 1) ++ [13]
def spoilN (b : List UInt8) (k : Nat) : Nat :=
  match k with
  | 0 => (chk b).length - 2
  | 1 => (hexs b.length).length
  | 2 => (hexs b.length).length
  | 3 => (chk b).length - 2
  | _ => (chk b).length - 1
theorem chk_cut {b : List UInt8} (h0 : b ≠ []) : (chk b).length = (hexs b.length).length + b.length + 4 ∧ (chk b).take (hexs b.length).length = hexs b.length ∧
    (chk b).take ((chk b).length - 2) = hexs b.length ++ [13, 10] ++ b ∧ (chk b).take ((chk b).length - 1) = hexs b.length ++ [13, 10] ++ b ++ [13] := by
  have e : chk b = hexs b.length ++ [13, 10] ++ b ++ [13, 10] := by unfold chk; rw [if_neg h0]; simp
  have hl : (chk b).length = (hexs b.length).length + b.length + 4 := by rw [e]; simp; omega
  refine ⟨hl, ?_, ?_, ?_⟩
  · rw [e, List.append_assoc, List.append_assoc]; exact List.take_left
  · rw [hl, e, show (hexs b.length).length + b.length + 4 - 2 = (hexs b.length ++ [13, 10] ++ b).length by simp; omega]; exact List.take_left
  · rw [hl, e, show hexs b.length ++ [13, 10] ++ b ++ [13, 10] = (hexs b.length ++ [13, 10] ++ b ++ [13]) ++ [10] by simp, show (hexs b.length).length + b.length + 4 - 1 = (hexs b.length ++ [13, 10] ++ b ++ [13]).length by simp; omega]; exact List.take_left
theorem spoilt {bf b : List UInt8} (k : Nat) (h : bf.length + b.length ≤ 12000) (h0 : b ≠ []) :
    ∃ s, wr zero (chk bf ++ spoil b k) = (s, bf ++ (if k = 0 ∨ 2 < k then b else []), (chk bf).length + spoilN b k) ∧ s.bad = 33 ∧ s.place ≠ 8 := by
  have h1 : 1 ≤ b.length := by
    rcases Nat.eq_zero_or_pos b.length with e | e
    · exact absurd (List.eq_nil_of_length_eq_zero e) h0
    · exact e
  obtain ⟨hl, t1, t2, t3⟩ := chk_cut h0
  have hp := wr_pre (T := bf.length) (b := b) (by omega) h1
  have hp2 := wr_pre2 (T := bf.length) (b := b) (by omega) h1
  have hx := wr_hexs b.length bf.length 0 (by omega)
  have fin : ∀ (pre rest d : List UInt8) (c : UInt8) (s1 : St), wr (fresh bf.length 0) pre = (s1, d, pre.length) → ¬ (s1.bad ≠ 0 ∨ s1.place = 8) → (step s1 c).bad = 33 → (step s1 c).place ≠ 8 →
      ∃ s, wr zero (chk bf ++ (pre ++ c :: rest)) = (s, bf ++ d, (chk bf).length + pre.length) ∧ s.bad = 33 ∧ s.place ≠ 8 := fun pre rest d c s1 e n1 n2 n3 => by
    refine ⟨step s1 c, ?_, n2, n3⟩
    rw [wr_append, wr_chk0 bf (by omega)]
    dsimp only
    rw [wr_spoil e n1 (by omega)]
  have lp : (hexs b.length ++ [13, 10] ++ b).length = (chk b).length - 2 := by rw [hl]; simp; omega
  have lp2 : (hexs b.length ++ [13, 10] ++ b ++ [13]).length = (chk b).length - 1 := by rw [hl]; simp; omega
  match k with
  | 0 =>
    unfold spoil spoilN
    rw [t2, if_pos (.inl rfl), ← lp]
    exact fin _ _ _ _ _ hp (by simp) rfl (by simp [step, St.err])
  | 1 =>
    unfold spoil spoilN
    rw [t1, if_neg (by omega)]
    refine fin _ _ _ _ _ hx (by simp) ?_ ?_
    · rw [step_hex_bad 10 (by omega) rfl (by decide) (by decide)]
    · rw [step_hex_bad 10 (by omega) rfl (by decide) (by decide)]; simp
  | 2 =>
    unfold spoil spoilN
    rw [t1, if_neg (by omega)]
    refine fin _ _ _ _ _ hx (by simp) ?_ ?_
    · rw [step_hex_bad 32 (by omega) rfl (by decide) (by decide)]
    · rw [step_hex_bad 32 (by omega) rfl (by decide) (by decide)]; simp
  | 3 =>
    unfold spoil spoilN
    rw [t2, if_pos (.inr (by omega)), ← lp]
    exact fin _ _ _ _ _ hp (by simp) rfl (by simp [step, St.err])
  | k + 4 =>
    unfold spoil spoilN
    rw [t3, if_pos (.inr (by omega)), ← lp2]
    exact fin _ _ _ _ _ hp2 (by simp) rfl (by simp [step, St.err])
end Ck
end Go.Proofs.YtbegpdhkjfdjbaaDoor
