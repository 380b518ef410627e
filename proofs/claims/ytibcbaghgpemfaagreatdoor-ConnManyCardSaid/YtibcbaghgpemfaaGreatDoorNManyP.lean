/-
  Layer 8: the fixed texts of ConnMany. Plain.
-/
import Derived.Test.YtibcbaghgpemfaaGreatDoorNAwP
namespace Go.Proofs.YtibcbaghgpemfaaGreatDoor
open Go.RowKit Syn Hd Fr Ck
namespace Cn
/-- The text n times. -/
def rep : Nat → List UInt8
  | 0 => []
  | n + 1 => oneB ++ rep n
theorem rep_length : ∀ n, (rep n).length = 27 * n
  | 0 => rfl
  | n + 1 => by unfold rep; rw [List.length_append, rep_length n]; unfold oneB; simp only [List.length_cons, List.length_nil]; omega
theorem rep_last : ∀ n, rep n ++ oneB = rep (n + 1)
  | 0 => by unfold rep rep; rw [List.append_nil, List.nil_append]
  | n + 1 => by
    show (oneB ++ rep n) ++ oneB = oneB ++ rep (n + 1)
    rw [List.append_assoc, rep_last n]
theorem rep_add : ∀ a b, rep (a + b) = rep a ++ rep b
  | 0, b => by rw [Nat.zero_add]; rfl
  | a + 1, b => by
    rw [show a + 1 + b = (a + b) + 1 by omega]
    show oneB ++ rep (a + b) = (oneB ++ rep a) ++ rep b
    rw [rep_add a b, List.append_assoc]
theorem many_step (rest : List UInt8) : ∀ (j : Nat) (c : C), c.err = 0 → c.body = false → c.resp = false → c.many + j ≤ 64 → c.buf = rep j ++ rest →
    ∃ (c' : C) (l : List Ev), R c = ((R c').1, l ++ (R c').2) ∧ l.length = 2 * j ∧ c'.err = 0 ∧ c'.body = false ∧ c'.resp = false ∧ c'.many = c.many + j ∧ c'.buf = rest
  | 0, c, h0, hb, hr, _, hbuf => ⟨c, [], by simp, rfl, h0, hb, hr, rfl, hbuf⟩
  | j + 1, c, h0, hb, hr, hm, hbuf => by
    have hbuf2 : c.buf = oneB ++ (rep j ++ rest) := by rw [hbuf, ← List.append_assoc]; rfl
    obtain ⟨c1, e1, e2, e3, e4, e5, e6, -⟩ := one_step h0 hb hr (by omega) hbuf2
    obtain ⟨c2, l, f1, f2, f3, f4, f5, f6, f7⟩ := many_step rest j c1 e2 e3 e4 (by omega) e6
    refine ⟨c2, oneV :: evEnd [] :: l, ?_, by simp only [List.length_cons, f2]; omega, f3, f4, f5, by omega, f7⟩
    rw [e1, f1]
    rfl
theorem many_write {m : Nat} (hm : m ≠ 0) : ∃ (c' : C) (l : List Ev), write (new false []) (rep m) = (c', l) ∧ l.length = 2 * (if m ≤ 64 then m else 64) ∧ c'.err = if m ≤ 64 then 0 else 5 := by
  have hne : rep m ≠ [] := fun h => by have := rep_length m; rw [h] at this; simp at this; omega
  have hw : write (new false []) (rep m) = R (app (new false []) (rep m)) := by
    unfold write
    rw [if_neg (by rintro (h | h); exact h rfl; exact hne h)]
  rw [hw]
  by_cases h : m ≤ 64
  · rw [if_pos h, if_pos h]
    obtain ⟨c2, l, f1, f2, f3, f4, f5, f6, f7⟩ := many_step [] m (app (new false []) (rep m)) rfl rfl rfl (by show 0 + m ≤ 64; omega) (by show [] ++ rep m = _; rw [List.append_nil, List.nil_append])
    rw [R_nil f3 (by rw [f4]; decide) f7] at f1
    exact ⟨c2, l ++ [], f1, by rw [List.append_nil]; exact f2, f3⟩
  · rw [if_neg h, if_neg h]
    obtain ⟨c2, l, f1, f2, f3, f4, f5, f6, f7⟩ := many_step (rep (m - 64)) 64 (app (new false []) (rep m)) rfl rfl rfl (by show 0 + 64 ≤ 64; omega) (by show [] ++ rep m = _; rw [List.nil_append, ← rep_add]; congr 1; omega)
    have hbuf : c2.buf = oneB ++ rep (m - 65) := by rw [f7, show m - 64 = (m - 65) + 1 by omega]; rfl
    obtain ⟨e1, -⟩ := rq_ext (rep (m - 65)) (x := oneB) (by rw [one_E]; decide)
    rw [one_E] at e1
    have hE0 : hE c2 = 0 := by unfold hE; rw [f5, if_neg (by decide), hbuf, e1]
    have hn : ¬ none_ c2 := fun h => by rw [h.1] at f5; cases f5
    have hwt : ¬ wait c2 := fun h => by rw [h.2] at hE0; cases hE0
    have hmany : c2.many = 64 := by rw [f6]; rfl
    have hs : sE c2 = 5 := by unfold sE; rw [if_neg hn, hE0, if_neg (by decide), if_pos (by omega)]
    have hne : ¬ c2.buf = [] := by rw [hbuf]; unfold oneB; simp
    rw [R_bad f3 (by rw [f4]; decide) hne hwt (by rw [hs]; decide), hs] at f1
    exact ⟨_, _, f1, by rw [List.append_nil]; exact f2, rfl⟩
/-- Two responses without a body. -/
def fixB : List UInt8 := [72, 84, 84, 80, 47, 49, 46, 49, 32, 49, 48, 51, 32, 69, 97, 114, 108, 121, 13, 10, 13, 10, 72, 84, 84, 80, 47, 49, 46, 49, 32, 50, 48, 52, 32, 78, 111, 32, 67, 111, 110, 116, 101, 110, 116, 13, 10, 13, 10]
def manyC (k : Nat) : Nat → C
  | 0 => new true (List.replicate k [])
  | i + 1 => (write (manyC k i) fixB).1
def threeOk : List Ev → Bool
  | [a, b, d] => decide (a.st = 103) && decide (b.st = 204) && decide (d.kind = 3)
  | _ => false
def fixOk (c : C) : Bool := decide (c.buf.length ≤ 100) && threeOk (write c fixB).2 && decide ((write c fixB).1.err = 0)
def lastOk (c : C) : Bool := decide (c.buf.length ≤ 100) && (write c [72]).2.isEmpty && decide ((write c [72]).1.err = 6)
theorem many_all : (List.range 5).all (fun k => (List.range k).all (fun i => fixOk (manyC k i)) && lastOk (manyC k k)) = true := by kernel_rfl
theorem three_ok {l : List Ev} (h : threeOk l = true) : ∃ a b d, l = [a, b, d] ∧ a.st = 103 ∧ b.st = 204 ∧ d.kind = 3 := by
  match l, h with
  | [a, b, d], h =>
    unfold threeOk at h
    simp only [Bool.and_eq_true, decide_eq_true_eq] at h
    exact ⟨a, b, d, rfl, h.1.1, h.1.2, h.2⟩
theorem many_fix {k i : Nat} (hk : k < 5) (hi : i < k) : (manyC k i).buf.length ≤ 100 ∧ ∃ a b d, write (manyC k i) fixB = (manyC k (i + 1), [a, b, d]) ∧ a.st = 103 ∧ b.st = 204 ∧ d.kind = 3 ∧ (manyC k (i + 1)).err = 0 := by
  have h1 := List.all_eq_true.1 many_all k (List.mem_range.2 hk)
  rw [Bool.and_eq_true] at h1
  have h2 := List.all_eq_true.1 h1.1 i (List.mem_range.2 hi)
  unfold fixOk at h2
  simp only [Bool.and_eq_true, decide_eq_true_eq] at h2
  obtain ⟨⟨e1, e2⟩, e3⟩ := h2
  obtain ⟨a, b, d, f1, f2, f3, f4⟩ := three_ok e2
  exact ⟨e1, a, b, d, Prod.ext rfl f1, f2, f3, f4, e3⟩
theorem many_last {k : Nat} (hk : k < 5) : (manyC k k).buf.length ≤ 100 ∧ ∃ c', write (manyC k k) [72] = (c', []) ∧ c'.err = 6 := by
  have h1 := List.all_eq_true.1 many_all k (List.mem_range.2 hk)
  rw [Bool.and_eq_true] at h1
  have h2 := h1.2
  unfold lastOk at h2
  simp only [Bool.and_eq_true, decide_eq_true_eq, List.isEmpty_iff] at h2
  exact ⟨h2.1.1, _, Prod.ext rfl h2.1.2, h2.2⟩
end Cn
end Go.Proofs.YtibcbaghgpemfaaGreatDoor
