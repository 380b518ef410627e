/-
  The plain laws of the sketch: no program.
-/
import Derived.Test.YtkcnnkbfnelfjaaArgs
namespace Go.Proofs.Ytkcnnkbfnelfjaa
open Go.RowKit Sk
theorem leastTo_mono {s t : S} (l : List UInt8) (hW : t.W = s.W) : ∀ n, (∀ i, i < n → s.c i (place i l s.W) ≤ t.c i (place i l s.W)) → leastTo s l n ≤ leastTo t l n
  | 0, _ => Nat.le_refl _
  | n + 1, h => by
    have := leastTo_mono l hW n (fun i hi => h i (by omega))
    have h1 := h n (by omega)
    simp only [leastTo, hW]
    omega
theorem leastTo_up {s t : S} (l : List UInt8) (hW : t.W = s.W) : ∀ n, (∀ i, i < n → t.c i (place i l s.W) ≤ s.c i (place i l s.W) + 1) → leastTo t l n ≤ leastTo s l n + 1
  | 0, _ => by simp [leastTo]
  | n + 1, h => by
    have := leastTo_up l hW n (fun i hi => h i (by omega))
    have h1 := h n (by omega)
    simp only [leastTo, hW]
    omega
theorem leastTo_ge {t : S} (l : List UInt8) (m : Nat) (hm : m ≤ 15) : ∀ n, (∀ i, i < n → m ≤ t.c i (place i l t.W)) → m ≤ leastTo t l n
  | 0, _ => hm
  | n + 1, h => by
    have := leastTo_ge l m hm n (fun i hi => h i (by omega))
    have h1 := h n (by omega)
    simp only [leastTo]
    omega
theorem leastTo_half {s t : S} (l : List UInt8) (hW : t.W = s.W) : ∀ n, 0 < n → (∀ i, i < n → t.c i (place i l s.W) = s.c i (place i l s.W) / 2) → (∀ i j, s.c i j ≤ 15) → leastTo t l n = leastTo s l n / 2
  | 1, _, h, hm => by
    have h1 := h 0 (by omega)
    have h2 := hm 0 (place 0 l s.W)
    simp only [leastTo, hW]
    simp only [Int.ofNat_zero] at *
    omega
  | n + 2, _, h, hm => by
    have := leastTo_half l hW (n + 1) (by omega) (fun i hi => h i (by omega)) hm
    have h1 := h (n + 1) (by omega)
    show min (leastTo t l (n + 1)) (t.c (n + 1) (place ((n + 1 : Nat) : Int) l t.W)) = min (leastTo s l (n + 1)) (s.c (n + 1) (place ((n + 1 : Nat) : Int) l s.W)) / 2
    rw [this, hW, h1]
    omega
theorem raw_W' (s : S) (l : List UInt8) : (raw s l).W = s.W := by unfold raw; split <;> (try split) <;> rfl
theorem bumpTo_bd (s : S) (l : List UInt8) (m : Nat) (i j : Nat) : s.c i j ≤ (bumpTo s l m 4).c i j ∧ (bumpTo s l m 4).c i j ≤ s.c i j + 1 := by
  simp only [bumpTo]
  split <;> omega
theorem raw_bd (s : S) (x : List UInt8) (i j : Nat) : s.c i j ≤ (raw s x).c i j ∧ (raw s x).c i j ≤ s.c i j + 1 := by
  unfold raw
  split
  · split
    · exact bumpTo_bd _ _ _ _ _
    · omega
  · show s.c i j ≤ s.c i j ∧ s.c i j ≤ s.c i j + 1
    omega
theorem raw_d (s : S) (x : List UInt8) (j : Nat) (h : s.d j = true) : (raw s x).d j = true := by
  unfold raw
  split
  · split <;> exact h
  · simp only [Sk.mark, h]; split <;> rfl
theorem least_raw (s : S) (x k : List UInt8) : least s k ≤ least (raw s x) k ∧ least (raw s x) k ≤ least s k + 1 :=
  ⟨leastTo_mono k (raw_W' s x) 4 fun i _ => (raw_bd s x i _).1, leastTo_up k (raw_W' s x) 4 fun i _ => (raw_bd s x i _).2⟩
/-- Adding a key makes no estimate smaller. -/
theorem est_raw (s : S) (x k : List UInt8) : est s k ≤ est (raw s x) k := by
  have h1 := (least_raw s x k).1
  unfold est
  rcases hb : bit s k with _ | _
  · simp only [Bool.toNat_false]; omega
  · have : bit (raw s x) k = true := by
      unfold Sk.bit at hb ⊢
      rw [raw_W']
      exact raw_d _ _ _ hb
    rw [this]; omega
theorem least_le15 (s : S) (l : List UInt8) : least s l ≤ 15 := least_le s l 4
theorem est_le (s : S) (k : List UInt8) : est s k ≤ 16 := by
  have := least_le15 s k
  have := Bool.toNat_le (bit s k)
  unfold est; omega
/-- The key that is added gets one more, up to 16. -/
theorem est_same (s : S) (x : List UInt8) : min (est s x + 1) 16 ≤ est (raw s x) x := by
  have hl := least_le15 s x
  rcases hb : bit s x with _ | _
  · have e : raw s x = Sk.mark s x := by simp [raw, hb]
    have h1 : bit (raw s x) x = true := by rw [e]; simp [Sk.bit, Sk.mark]
    have h2 : least (raw s x) x = least s x := by rw [e]; rfl
    unfold est
    rw [h1, h2, hb]
    simp only [Bool.toNat_false, Bool.toNat_true]; omega
  · have h1 : bit (raw s x) x = true := by
      unfold Sk.bit at hb ⊢
      rw [raw_W']
      exact raw_d _ _ _ hb
    by_cases hm : least s x < 15
    · have e : raw s x = bumpTo s x (least s x) 4 := by simp [raw, hb, hm]
      have h2 : least s x + 1 ≤ least (raw s x) x := by
        rw [e]
        refine leastTo_ge x _ (by omega) 4 fun i hi => ?_
        have hge : least s x ≤ s.c i (place i x s.W) := by
          have : ∀ n i, i < n → leastTo s x n ≤ s.c i (place i x s.W) := by
            intro n
            induction n with
            | zero => intro i h; omega
            | succ n ih =>
              intro i h
              by_cases e : i = n
              · subst e; exact Nat.min_le_right _ _
              · exact Nat.le_trans (Nat.min_le_left _ _) (ih i (by omega))
          exact this 4 i hi
        show least s x + 1 ≤ (bumpTo s x (least s x) 4).c i (place i x s.W)
        simp only [bumpTo]
        split
        · omega
        · rename_i hne
          have : s.c i (place i x s.W) ≠ least s x := fun e => hne (by simp [hi, e])
          omega
      unfold est
      rw [h1, hb]
      simp only [Bool.toNat_true]; omega
    · have h3 := (least_raw s x x).1
      unfold est
      rw [h1, hb]
      simp only [Bool.toNat_true]; omega
theorem est_count (s : S) (k : List UInt8) : est (count s) k = est s k := rfl
theorem add_young (s : S) (x : List UInt8) (h : s.added + 1 < 8 * s.W) : add s x = count (raw s x) := by
  unfold add
  rw [if_neg (by rw [Nat.mod_eq_of_lt h]; omega)]
theorem add_old (s : S) (x : List UInt8) (h : s.added + 1 = 8 * s.W) : add s x = aged (count (raw s x)) := by
  unfold add
  rw [if_pos (by rw [h, Nat.mod_self])]
theorem est_aged (s : S) (k : List UInt8) (hm : ∀ i j, s.c i j ≤ 15) : est (aged s) k = least s k / 2 := by
  have h1 : bit (aged s) k = false := rfl
  unfold est
  rw [h1]
  have : least (aged s) k = least s k / 2 := leastTo_half (s := s) (t := aged s) k rfl 4 (by omega) (fun i hi => by simp [aged, hi]) hm
  simpa using this
theorem raw_sm (s : S) (x : List UInt8) (hm : ∀ i j, s.c i j ≤ 15) (i j : Nat) : (raw s x).c i j ≤ 15 := by
  have hl := least_le15 s x
  unfold raw
  split
  · split
    · simp only [bumpTo]
      have := hm i j
      split <;> omega
    · exact hm i j
  · exact hm i j
/-- What the aging leaves of an estimate. -/
theorem est_old (s : S) (x k : List UInt8) (h : s.added + 1 = 8 * s.W) (hm : ∀ i j, s.c i j ≤ 15) :
    est s k ≤ 2 * est (add s x) k + 2 ∧ est (add s x) k ≤ 8 ∧ est (add s x) k ≤ est s k := by
  rw [add_old s x h, est_aged (count (raw s x)) k (raw_sm s x hm)]
  have h1 : least (count (raw s x)) k = least (raw s x) k := rfl
  rw [h1]
  have h2 := least_raw s x k
  have h3 := least_le15 (raw s x) k
  have h4 := Bool.toNat_le (bit s k)
  unfold est
  omega
theorem keyS_mod (n : Nat) : keyS (n % 40) = keyS n := by
  unfold keyS
  have h1 : n % 40 % 8 = n % 8 := by omega
  rw [Nat.mod_mod, h1]
end Go.Proofs.Ytkcnnkbfnelfjaa
