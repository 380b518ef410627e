/-
  Layer 7: runs of the machine. Plain Lean.
-/
import Derived.Test.YtemlnmelicnneaaDoorCSpec
namespace Go.Proofs.YtemlnmelicnneaaDoor
open Go.RowKit Syn

namespace Ck
theorem wr_stop {s : St} (h : s.bad ≠ 0 ∨ s.place = 8) : ∀ l, wr s l = (s, [], 0)
  | [] => rfl
  | c :: r => by unfold wr; rw [if_pos h]
theorem wr_bad {s : St} (h : ¬ (s.bad ≠ 0 ∨ s.place = 8)) {c : UInt8} (hb : (step s c).bad ≠ 0) (r : List UInt8) : wr s (c :: r) = (step s c, [], 0) := by
  unfold wr; rw [if_neg h, if_pos hb]
theorem wr_go {s : St} (h : ¬ (s.bad ≠ 0 ∨ s.place = 8)) {c : UInt8} (hb : ¬ (step s c).bad ≠ 0) (r : List UInt8) :
    wr s (c :: r) = ((wr (step s c) r).1, (if s.place = 3 then c :: (wr (step s c) r).2.1 else (wr (step s c) r).2.1), (wr (step s c) r).2.2 + 1) := by
  conv => lhs; unfold wr
  rw [if_neg h, if_neg hb]
theorem wr_append : ∀ (a b : List UInt8) (s : St), wr s (a ++ b) = ((wr (wr s a).1 b).1, (wr s a).2.1 ++ (wr (wr s a).1 b).2.1, (wr s a).2.2 + (wr (wr s a).1 b).2.2)
  | [], b, s => by show wr s b = ((wr s b).1, [] ++ (wr s b).2.1, 0 + (wr s b).2.2); rw [List.nil_append, Nat.zero_add]
  | c :: a, b, s => by
    by_cases h : s.bad ≠ 0 ∨ s.place = 8
    · rw [wr_stop h, wr_stop h, wr_stop h]; rfl
    · by_cases hb : (step s c).bad ≠ 0
      · rw [List.cons_append, wr_bad h hb, wr_bad h hb, wr_stop (.inl hb)]; rfl
      · rw [List.cons_append, wr_go h hb, wr_go h hb, wr_append a b (step s c)]
        simp only
        split
        · simp only [List.cons_append]; congr 2; omega
        · congr 2; omega
theorem wr_count : ∀ (l : List UInt8) (s : St), (wr s l).2.2 ≤ l.length
  | [], s => Nat.le_refl _
  | c :: r, s => by
    by_cases h : s.bad ≠ 0 ∨ s.place = 8
    · rw [wr_stop h]; exact Nat.zero_le _
    · by_cases hb : (step s c).bad ≠ 0
      · rw [wr_bad h hb]; exact Nat.zero_le _
      · rw [wr_go h hb]
        have := wr_count r (step s c)
        show (wr (step s c) r).2.2 + 1 ≤ r.length + 1
        omega
theorem wr_data_count : ∀ (l : List UInt8) (s : St), (wr s l).2.1.length ≤ (wr s l).2.2
  | [], s => Nat.le_refl _
  | c :: r, s => by
    by_cases h : s.bad ≠ 0 ∨ s.place = 8
    · rw [wr_stop h]; exact Nat.zero_le _
    · by_cases hb : (step s c).bad ≠ 0
      · rw [wr_bad h hb]; exact Nat.zero_le _
      · rw [wr_go h hb]
        have := wr_data_count r (step s c)
        show (if s.place = 3 then c :: (wr (step s c) r).2.1 else (wr (step s c) r).2.1).length ≤ (wr (step s c) r).2.2 + 1
        split
        · rw [List.length_cons]; omega
        · omega
/-- After k bytes of data. -/
def dat (s : St) (k : Nat) : St := if k = s.left then { s with left := 0, total := s.total + k, place := 4 } else { s with left := s.left - k, total := s.total + k }
theorem dat_step {s : St} (h3 : s.place = 3) (hl : 1 ≤ s.left) (c : UInt8) : step s c = dat s 1 := by
  unfold step dat
  rw [if_neg (by omega), if_neg (by omega), if_pos h3]
  by_cases h : s.left = 1
  · rw [if_pos (by omega), if_pos h.symm, h]
  · rw [if_neg (by omega), if_neg (fun e => h e.symm)]
theorem dat_dat {s : St} {k : Nat} (hk : k + 1 ≤ s.left) : 1 ≤ k → dat (dat s k) 1 = dat s (k + 1) := by
  intro h1
  have e1 : dat s k = { s with left := s.left - k, total := s.total + k } := by unfold dat; rw [if_neg (by omega)]
  rw [e1]
  unfold dat
  simp only
  by_cases h : k + 1 = s.left
  · rw [if_pos (by omega), if_pos h]; rfl
  · rw [if_neg (by omega), if_neg h]
    congr 1
theorem dat_bad (s : St) (k : Nat) : (dat s k).bad = s.bad := by unfold dat; split <;> rfl
theorem dat_place {s : St} {k : Nat} (h3 : s.place = 3) (h : k ≠ s.left) : (dat s k).place = 3 := by unfold dat; rw [if_neg h]; exact h3
theorem dat_left {s : St} {k : Nat} (h : k ≠ s.left) : (dat s k).left = s.left - k := by unfold dat; rw [if_neg h]
/-- A run of data. -/
theorem wr_dat : ∀ (a : List UInt8) (s : St), s.place = 3 → s.bad = 0 → 1 ≤ a.length → a.length ≤ s.left → wr s a = (dat s a.length, a, a.length) := by
  intro a
  suffices h : ∀ (n : Nat) (a : List UInt8) (s : St), a.length = n → s.place = 3 → s.bad = 0 → 1 ≤ a.length → a.length ≤ s.left → wr s a = (dat s a.length, a, a.length) from fun s => h a.length a s rfl
  intro n
  induction n with
  | zero => intro a s h _ _ h1; omega
  | succ n ih =>
    intro a s hn h3 hb h1 hl
    have hgo : ∀ (t : St) (c : UInt8), t.place = 3 → t.bad = 0 → 1 ≤ t.left → wr t [c] = (dat t 1, [c], 1) := fun t c ht htb htl => by
      rw [wr_go (by omega) (by rw [dat_step ht htl, dat_bad]; omega), dat_step ht htl, if_pos ht]; rfl
    obtain ⟨b, c, rfl⟩ : ∃ b c, a = b ++ [c] := ⟨a.dropLast, a.getLast (by intro e; rw [e] at hn; cases hn), (List.dropLast_concat_getLast _).symm⟩
    rw [List.length_append, List.length_singleton] at hn hl ⊢
    by_cases h0 : b.length = 0
    · rw [List.eq_nil_of_length_eq_zero h0]
      exact hgo s c h3 hb (by omega)
    · rw [wr_append, ih b s (by omega) h3 hb (by omega) (by omega)]
      have hk : b.length ≠ s.left := by omega
      simp only
      rw [hgo _ c (dat_place h3 hk) (by rw [dat_bad]; exact hb) (by rw [dat_left hk]; omega), dat_dat hl (by omega)]
theorem ok_dat {s : St} (h : Ok s) (h3 : s.place = 3) {k : Nat} (hk : k ≤ s.left) : Ok (dat s k) := by
  have hd := h.data h3
  have he := h.early (by omega)
  unfold dat
  split
  · exact ⟨h.bad, by show 4 ≤ 8; omega, h.digits, h.line, h.sect, fun _ => he, h.text, h.fields, fun e => (by change 4 ≤ 2 at e; omega), fun e => (by cases e), (by show s.total + k ≤ 65536; omega), fun e => (by change 6 ≤ 4 at e; omega)⟩
  · exact ⟨h.bad, h.place, h.digits, h.line, h.sect, fun _ => he, h.text, h.fields, fun e => (by change s.place ≤ 2 at e; omega), fun _ => ⟨by show 1 ≤ s.left - k; omega, by show s.total + k + (s.left - k) ≤ 65536; omega⟩, (by show s.total + k ≤ 65536; omega), fun e => (by change 6 ≤ s.place at e; omega)⟩
theorem err_place {s : St} {c : UInt8} (hb : s.bad = 0) (h : (step s c).bad ≠ 0) : (step s c).place = s.place := by
  unfold step at h ⊢
  repeat' first
    | rfl
    | (exfalso; exact h hb)
    | (unfold sized ended at *)
    | split
  all_goals first
    | rfl
    | (exfalso; simp_all)
    | simp_all [St.err]
end Ck
end Go.Proofs.YtemlnmelicnneaaDoor
