/-
  Layer 5: the phrase of a status.
-/
import Derived.Test.YtemlnmelicnneaaDoorFlds
namespace Go.Proofs.YtemlnmelicnneaaDoor
open Go.RowKit Syn

namespace Hd
def phrG : List (Nat × List UInt8) :=
  [(100, [67, 111, 110, 116, 105, 110, 117, 101]), (101, [83, 119, 105, 116, 99, 104, 105, 110, 103, 32, 80, 114, 111, 116, 111, 99, 111, 108, 115]), (200, [79, 75]), (201, [67, 114, 101, 97, 116, 101, 100]), (202, [65, 99, 99, 101, 112, 116, 101, 100]), (203, [78, 111, 110, 45, 65, 117, 116, 104, 111, 114, 105, 116, 97, 116, 105, 118, 101, 32, 73, 110, 102, 111, 114, 109, 97, 116, 105, 111, 110]), (204, [78, 111, 32, 67, 111, 110, 116, 101, 110, 116]), (206, [80, 97, 114, 116, 105, 97, 108, 32, 67, 111, 110, 116, 101, 110, 116]), (300, [77, 117, 108, 116, 105, 112, 108, 101, 32, 67, 104, 111, 105, 99, 101, 115]), (301, [77, 111, 118, 101, 100, 32, 80, 101, 114, 109, 97, 110, 101, 110, 116, 108, 121]), (302, [70, 111, 117, 110, 100]), (303, [83, 101, 101, 32, 79, 116, 104, 101, 114]), (304, [78, 111, 116, 32, 77, 111, 100, 105, 102, 105, 101, 100]), (307, [84, 101, 109, 112, 111, 114, 97, 114, 121, 32, 82, 101, 100, 105, 114, 101, 99, 116]), (308, [80, 101, 114, 109, 97, 110, 101, 110, 116, 32, 82, 101, 100, 105, 114, 101, 99, 116])]
def phrR : List (Nat × List UInt8) :=
  [(400, [66, 97, 100, 32, 82, 101, 113, 117, 101, 115, 116]), (401, [85, 110, 97, 117, 116, 104, 111, 114, 105, 122, 101, 100]), (403, [70, 111, 114, 98, 105, 100, 100, 101, 110]), (404, [78, 111, 116, 32, 70, 111, 117, 110, 100]), (405, [77, 101, 116, 104, 111, 100, 32, 78, 111, 116, 32, 65, 108, 108, 111, 119, 101, 100]), (408, [82, 101, 113, 117, 101, 115, 116, 32, 84, 105, 109, 101, 111, 117, 116]), (410, [71, 111, 110, 101]), (411, [76, 101, 110, 103, 116, 104, 32, 82, 101, 113, 117, 105, 114, 101, 100]), (412, [80, 114, 101, 99, 111, 110, 100, 105, 116, 105, 111, 110, 32, 70, 97, 105, 108, 101, 100]), (413, [67, 111, 110, 116, 101, 110, 116, 32, 84, 111, 111, 32, 76, 97, 114, 103, 101]), (414, [85, 82, 73, 32, 84, 111, 111, 32, 76, 111, 110, 103]), (416, [82, 97, 110, 103, 101, 32, 78, 111, 116, 32, 83, 97, 116, 105, 115, 102, 105, 97, 98, 108, 101]), (429, [84, 111, 111, 32, 77, 97, 110, 121, 32, 82, 101, 113, 117, 101, 115, 116, 115]), (431, [82, 101, 113, 117, 101, 115, 116, 32, 72, 101, 97, 100, 101, 114, 32, 70, 105, 101, 108, 100, 115, 32, 84, 111, 111, 32, 76, 97, 114, 103, 101])]
def phrF : List (Nat × List UInt8) :=
  [(500, [73, 110, 116, 101, 114, 110, 97, 108, 32, 83, 101, 114, 118, 101, 114, 32, 69, 114, 114, 111, 114]), (501, [78, 111, 116, 32, 73, 109, 112, 108, 101, 109, 101, 110, 116, 101, 100]), (502, [66, 97, 100, 32, 71, 97, 116, 101, 119, 97, 121]), (503, [83, 101, 114, 118, 105, 99, 101, 32, 85, 110, 97, 118, 97, 105, 108, 97, 98, 108, 101]), (504, [71, 97, 116, 101, 119, 97, 121, 32, 84, 105, 109, 101, 111, 117, 116])]
def lk (l : List (Nat × List UInt8)) (s : Int) : List UInt8 := match l.find? (fun p => decide ((p.1 : Int) = s)) with
  | some p => p.2
  | none => []
theorem lk_none {l : List (Nat × List UInt8)} {s : Int} (h : ∀ p ∈ l, (p.1 : Int) ≠ s) : lk l s = [] := by
  unfold lk
  rw [List.find?_eq_none.2 (fun p hp => by simpa using h p hp)]
def phr : List (Nat × List UInt8) := phrG ++ (phrR ++ phrF)
/-- The phrase of a status. -/
def rsn (s : Int) : List UInt8 := lk phr s
theorem lk_app (a b : List (Nat × List UInt8)) (s : Int) : lk (a ++ b) s = if (a.find? (fun p => decide ((p.1 : Int) = s))).isSome then lk a s else lk b s := by
  unfold lk
  rw [List.find?_append]
  cases h : a.find? (fun p => decide ((p.1 : Int) = s)) <;> simp
theorem lk_left {a b : List (Nat × List UInt8)} {s : Int} (h : ∀ p ∈ b, (p.1 : Int) ≠ s) : lk (a ++ b) s = lk a s := by
  rw [lk_app]
  split
  · rfl
  · rename_i hn
    rw [lk_none h]
    unfold lk
    cases hx : a.find? (fun p => decide ((p.1 : Int) = s)) with
    | none => rfl
    | some p => rw [hx] at hn; simp at hn
theorem lk_right {a b : List (Nat × List UInt8)} {s : Int} (h : ∀ p ∈ a, (p.1 : Int) ≠ s) : lk (a ++ b) s = lk b s := by
  rw [lk_app, List.find?_eq_none.2 (fun p hp => by simpa using h p hp)]
  rfl
theorem phrG_lt : ∀ p ∈ phrG, 100 ≤ p.1 ∧ p.1 < 400 := by decide
theorem phrR_lt : ∀ p ∈ phrR, 400 ≤ p.1 ∧ p.1 < 500 := by decide
theorem phrF_lt : ∀ p ∈ phrF, 500 ≤ p.1 ∧ p.1 < 600 := by decide
theorem rsn_good {s : Int} (h : s < 400) : rsn s = lk phrG s := by
  unfold rsn phr
  refine lk_left (fun p hp => ?_)
  rcases List.mem_append.1 hp with hp | hp
  · have := phrR_lt p hp; omega
  · have := phrF_lt p hp; omega
theorem rsn_refused {s : Int} (h : 400 ≤ s) (h2 : s < 500) : rsn s = lk phrR s := by
  unfold rsn phr
  rw [lk_right (fun p hp => by have := phrG_lt p hp; omega)]
  exact lk_left (fun p hp => by have := phrF_lt p hp; omega)
theorem rsn_failed {s : Int} (h : 500 ≤ s) : rsn s = lk phrF s := by
  unfold rsn phr
  rw [lk_right (fun p hp => by have := phrG_lt p hp; omega)]
  exact lk_right (fun p hp => by have := phrR_lt p hp; omega)
theorem rsn_none {s : Int} (h : s < 100 ∨ 600 ≤ s) : rsn s = [] := by
  refine lk_none (fun p hp => ?_)
  unfold phr at hp
  rcases List.mem_append.1 hp with hp | hp
  · have := phrG_lt p hp; omega
  · rcases List.mem_append.1 hp with hp | hp
    · have := phrR_lt p hp; omega
    · have := phrF_lt p hp; omega
theorem rsn_len (s : Int) : (rsn s).length ≤ 40 := by
  unfold rsn lk
  have h : ∀ p ∈ phr, p.2.length ≤ 40 := by decide
  cases hx : phr.find? (fun p => decide ((p.1 : Int) = s)) with
  | none => simp
  | some p => exact h p (List.mem_of_find?_eq_some hx)
end Hd
open Hd
set_option maxHeartbeats 4000000 in
theorem good_any (s : Int) (w : World) : Calls Tryd.prog 34 #[.int .i64 s] w fun e w' => e = .returned (.string (str (lk phrG s))) ∧ w' = w := by
  by_cases h0 : s = 100
  · subst h0
    go_enter Tryd.func34, Tryd.ntmps34
    go_wp2
    go_ret
    exact ⟨rfl, rfl⟩
  have q0 : (s == 100) = false := by rw [beq_eq_false_iff_ne]; exact h0
  by_cases h1 : s = 101
  · subst h1
    go_enter Tryd.func34, Tryd.ntmps34
    go_wp2
    go_ret
    exact ⟨rfl, rfl⟩
  have q1 : (s == 101) = false := by rw [beq_eq_false_iff_ne]; exact h1
  by_cases h2 : s = 200
  · subst h2
    go_enter Tryd.func34, Tryd.ntmps34
    go_wp2
    go_ret
    exact ⟨rfl, rfl⟩
  have q2 : (s == 200) = false := by rw [beq_eq_false_iff_ne]; exact h2
  by_cases h3 : s = 201
  · subst h3
    go_enter Tryd.func34, Tryd.ntmps34
    go_wp2
    go_ret
    exact ⟨rfl, rfl⟩
  have q3 : (s == 201) = false := by rw [beq_eq_false_iff_ne]; exact h3
  by_cases h4 : s = 202
  · subst h4
    go_enter Tryd.func34, Tryd.ntmps34
    go_wp2
    go_ret
    exact ⟨rfl, rfl⟩
  have q4 : (s == 202) = false := by rw [beq_eq_false_iff_ne]; exact h4
  by_cases h5 : s = 203
  · subst h5
    go_enter Tryd.func34, Tryd.ntmps34
    go_wp2
    go_ret
    exact ⟨rfl, rfl⟩
  have q5 : (s == 203) = false := by rw [beq_eq_false_iff_ne]; exact h5
  by_cases h6 : s = 204
  · subst h6
    go_enter Tryd.func34, Tryd.ntmps34
    go_wp2
    go_ret
    exact ⟨rfl, rfl⟩
  have q6 : (s == 204) = false := by rw [beq_eq_false_iff_ne]; exact h6
  by_cases h7 : s = 206
  · subst h7
    go_enter Tryd.func34, Tryd.ntmps34
    go_wp2
    go_ret
    exact ⟨rfl, rfl⟩
  have q7 : (s == 206) = false := by rw [beq_eq_false_iff_ne]; exact h7
  by_cases h8 : s = 300
  · subst h8
    go_enter Tryd.func34, Tryd.ntmps34
    go_wp2
    go_ret
    exact ⟨rfl, rfl⟩
  have q8 : (s == 300) = false := by rw [beq_eq_false_iff_ne]; exact h8
  by_cases h9 : s = 301
  · subst h9
    go_enter Tryd.func34, Tryd.ntmps34
    go_wp2
    go_ret
    exact ⟨rfl, rfl⟩
  have q9 : (s == 301) = false := by rw [beq_eq_false_iff_ne]; exact h9
  by_cases h10 : s = 302
  · subst h10
    go_enter Tryd.func34, Tryd.ntmps34
    go_wp2
    go_ret
    exact ⟨rfl, rfl⟩
  have q10 : (s == 302) = false := by rw [beq_eq_false_iff_ne]; exact h10
  by_cases h11 : s = 303
  · subst h11
    go_enter Tryd.func34, Tryd.ntmps34
    go_wp2
    go_ret
    exact ⟨rfl, rfl⟩
  have q11 : (s == 303) = false := by rw [beq_eq_false_iff_ne]; exact h11
  by_cases h12 : s = 304
  · subst h12
    go_enter Tryd.func34, Tryd.ntmps34
    go_wp2
    go_ret
    exact ⟨rfl, rfl⟩
  have q12 : (s == 304) = false := by rw [beq_eq_false_iff_ne]; exact h12
  by_cases h13 : s = 307
  · subst h13
    go_enter Tryd.func34, Tryd.ntmps34
    go_wp2
    go_ret
    exact ⟨rfl, rfl⟩
  have q13 : (s == 307) = false := by rw [beq_eq_false_iff_ne]; exact h13
  by_cases h14 : s = 308
  · subst h14
    go_enter Tryd.func34, Tryd.ntmps34
    go_wp2
    go_ret
    exact ⟨rfl, rfl⟩
  have q14 : (s == 308) = false := by rw [beq_eq_false_iff_ne]; exact h14
  have hn : Hid (lk phrG s = []) := Lib.hid (lk_none (fun p hp => by
    simp only [phrG, List.mem_cons, List.not_mem_nil, or_false] at hp
    rcases hp with rfl | rfl | rfl | rfl | rfl | rfl | rfl | rfl | rfl | rfl | rfl | rfl | rfl | rfl | rfl <;> simp only <;> omega))
  clear h0
  clear h1
  clear h2
  clear h3
  clear h4
  clear h5
  clear h6
  clear h7
  clear h8
  clear h9
  clear h10
  clear h11
  clear h12
  clear h13
  clear h14
  go_enter Tryd.func34, Tryd.ntmps34
  go_wp2
  go_ret
  exact ⟨by rw [hn.out]; rfl, rfl⟩
set_option maxHeartbeats 4000000 in
theorem refused_any (s : Int) (w : World) : Calls Tryd.prog 35 #[.int .i64 s] w fun e w' => e = .returned (.string (str (lk phrR s))) ∧ w' = w := by
  by_cases h0 : s = 400
  · subst h0
    go_enter Tryd.func35, Tryd.ntmps35
    go_wp2
    go_ret
    exact ⟨rfl, rfl⟩
  have q0 : (s == 400) = false := by rw [beq_eq_false_iff_ne]; exact h0
  by_cases h1 : s = 401
  · subst h1
    go_enter Tryd.func35, Tryd.ntmps35
    go_wp2
    go_ret
    exact ⟨rfl, rfl⟩
  have q1 : (s == 401) = false := by rw [beq_eq_false_iff_ne]; exact h1
  by_cases h2 : s = 403
  · subst h2
    go_enter Tryd.func35, Tryd.ntmps35
    go_wp2
    go_ret
    exact ⟨rfl, rfl⟩
  have q2 : (s == 403) = false := by rw [beq_eq_false_iff_ne]; exact h2
  by_cases h3 : s = 404
  · subst h3
    go_enter Tryd.func35, Tryd.ntmps35
    go_wp2
    go_ret
    exact ⟨rfl, rfl⟩
  have q3 : (s == 404) = false := by rw [beq_eq_false_iff_ne]; exact h3
  by_cases h4 : s = 405
  · subst h4
    go_enter Tryd.func35, Tryd.ntmps35
    go_wp2
    go_ret
    exact ⟨rfl, rfl⟩
  have q4 : (s == 405) = false := by rw [beq_eq_false_iff_ne]; exact h4
  by_cases h5 : s = 408
  · subst h5
    go_enter Tryd.func35, Tryd.ntmps35
    go_wp2
    go_ret
    exact ⟨rfl, rfl⟩
  have q5 : (s == 408) = false := by rw [beq_eq_false_iff_ne]; exact h5
  by_cases h6 : s = 410
  · subst h6
    go_enter Tryd.func35, Tryd.ntmps35
    go_wp2
    go_ret
    exact ⟨rfl, rfl⟩
  have q6 : (s == 410) = false := by rw [beq_eq_false_iff_ne]; exact h6
  by_cases h7 : s = 411
  · subst h7
    go_enter Tryd.func35, Tryd.ntmps35
    go_wp2
    go_ret
    exact ⟨rfl, rfl⟩
  have q7 : (s == 411) = false := by rw [beq_eq_false_iff_ne]; exact h7
  by_cases h8 : s = 412
  · subst h8
    go_enter Tryd.func35, Tryd.ntmps35
    go_wp2
    go_ret
    exact ⟨rfl, rfl⟩
  have q8 : (s == 412) = false := by rw [beq_eq_false_iff_ne]; exact h8
  by_cases h9 : s = 413
  · subst h9
    go_enter Tryd.func35, Tryd.ntmps35
    go_wp2
    go_ret
    exact ⟨rfl, rfl⟩
  have q9 : (s == 413) = false := by rw [beq_eq_false_iff_ne]; exact h9
  by_cases h10 : s = 414
  · subst h10
    go_enter Tryd.func35, Tryd.ntmps35
    go_wp2
    go_ret
    exact ⟨rfl, rfl⟩
  have q10 : (s == 414) = false := by rw [beq_eq_false_iff_ne]; exact h10
  by_cases h11 : s = 416
  · subst h11
    go_enter Tryd.func35, Tryd.ntmps35
    go_wp2
    go_ret
    exact ⟨rfl, rfl⟩
  have q11 : (s == 416) = false := by rw [beq_eq_false_iff_ne]; exact h11
  by_cases h12 : s = 429
  · subst h12
    go_enter Tryd.func35, Tryd.ntmps35
    go_wp2
    go_ret
    exact ⟨rfl, rfl⟩
  have q12 : (s == 429) = false := by rw [beq_eq_false_iff_ne]; exact h12
  by_cases h13 : s = 431
  · subst h13
    go_enter Tryd.func35, Tryd.ntmps35
    go_wp2
    go_ret
    exact ⟨rfl, rfl⟩
  have q13 : (s == 431) = false := by rw [beq_eq_false_iff_ne]; exact h13
  have hn : Hid (lk phrR s = []) := Lib.hid (lk_none (fun p hp => by
    simp only [phrR, List.mem_cons, List.not_mem_nil, or_false] at hp
    rcases hp with rfl | rfl | rfl | rfl | rfl | rfl | rfl | rfl | rfl | rfl | rfl | rfl | rfl | rfl <;> simp only <;> omega))
  clear h0
  clear h1
  clear h2
  clear h3
  clear h4
  clear h5
  clear h6
  clear h7
  clear h8
  clear h9
  clear h10
  clear h11
  clear h12
  clear h13
  go_enter Tryd.func35, Tryd.ntmps35
  go_wp2
  go_ret
  exact ⟨by rw [hn.out]; rfl, rfl⟩
set_option maxHeartbeats 4000000 in
theorem failed_any (s : Int) (w : World) : Calls Tryd.prog 36 #[.int .i64 s] w fun e w' => e = .returned (.string (str (lk phrF s))) ∧ w' = w := by
  by_cases h0 : s = 500
  · subst h0
    go_enter Tryd.func36, Tryd.ntmps36
    go_wp2
    go_ret
    exact ⟨rfl, rfl⟩
  have q0 : (s == 500) = false := by rw [beq_eq_false_iff_ne]; exact h0
  by_cases h1 : s = 501
  · subst h1
    go_enter Tryd.func36, Tryd.ntmps36
    go_wp2
    go_ret
    exact ⟨rfl, rfl⟩
  have q1 : (s == 501) = false := by rw [beq_eq_false_iff_ne]; exact h1
  by_cases h2 : s = 502
  · subst h2
    go_enter Tryd.func36, Tryd.ntmps36
    go_wp2
    go_ret
    exact ⟨rfl, rfl⟩
  have q2 : (s == 502) = false := by rw [beq_eq_false_iff_ne]; exact h2
  by_cases h3 : s = 503
  · subst h3
    go_enter Tryd.func36, Tryd.ntmps36
    go_wp2
    go_ret
    exact ⟨rfl, rfl⟩
  have q3 : (s == 503) = false := by rw [beq_eq_false_iff_ne]; exact h3
  by_cases h4 : s = 504
  · subst h4
    go_enter Tryd.func36, Tryd.ntmps36
    go_wp2
    go_ret
    exact ⟨rfl, rfl⟩
  have q4 : (s == 504) = false := by rw [beq_eq_false_iff_ne]; exact h4
  have hn : Hid (lk phrF s = []) := Lib.hid (lk_none (fun p hp => by
    simp only [phrF, List.mem_cons, List.not_mem_nil, or_false] at hp
    rcases hp with rfl | rfl | rfl | rfl | rfl <;> simp only <;> omega))
  clear h0
  clear h1
  clear h2
  clear h3
  clear h4
  go_enter Tryd.func36, Tryd.ntmps36
  go_wp2
  go_ret
  exact ⟨by rw [hn.out]; rfl, rfl⟩
set_option maxHeartbeats 4000000 in
theorem reason_any (s : Int) (hs : -9223372036854775808 ≤ s) (hs2 : s ≤ 9223372036854775807) (w : World) : Calls Tryd.prog 15 #[.int .i64 s] w fun e w' => e = .returned (.string (str (rsn s))) ∧ w' = w := by
  rcases (show s < 0 ∨ (0 ≤ s ∧ s < 100) ∨ (100 ≤ s ∧ s < 200) ∨ (200 ≤ s ∧ s < 300) ∨ (300 ≤ s ∧ s < 400) ∨ (400 ≤ s ∧ s < 500) ∨ (500 ≤ s ∧ s < 600) ∨ 600 ≤ s by omega) with h | h | h | h | h | h | h | h
  · have hr := Lib.hid (rsn_none (s := s) (.inl (by omega)))
    have ht : s.tdiv 100 ≤ 0 := by
      have := Int.tdiv_nonneg (a := -s) (b := 100) (by omega) (by omega)
      rw [Int.neg_tdiv] at this
      omega
    have q1 : (s.tdiv 100 == 1) = false := by rw [beq_eq_false_iff_ne]; omega
    have q2 : (s.tdiv 100 == 2) = false := by rw [beq_eq_false_iff_ne]; omega
    have q3 : (s.tdiv 100 == 3) = false := by rw [beq_eq_false_iff_ne]; omega
    have q4 : (s.tdiv 100 == 4) = false := by rw [beq_eq_false_iff_ne]; omega
    have q5 : (s.tdiv 100 == 5) = false := by rw [beq_eq_false_iff_ne]; omega
    clear ht
    go_enter Tryd.func15, Tryd.ntmps15
    go_wp2
    go_ret
    exact ⟨by rw [hr.out]; rfl, rfl⟩
  · have hr := Lib.hid (rsn_none (s := s) (.inl (by omega)))
    have q1 : (s / 100 == 1) = false := by rw [beq_eq_false_iff_ne]; omega
    have q2 : (s / 100 == 2) = false := by rw [beq_eq_false_iff_ne]; omega
    have q3 : (s / 100 == 3) = false := by rw [beq_eq_false_iff_ne]; omega
    have q4 : (s / 100 == 4) = false := by rw [beq_eq_false_iff_ne]; omega
    have q5 : (s / 100 == 5) = false := by rw [beq_eq_false_iff_ne]; omega
    have p0 : 0 ≤ s := by omega
    go_enter Tryd.func15, Tryd.ntmps15
    go_wp2
    go_ret
    exact ⟨by rw [hr.out]; rfl, rfl⟩
  · have hr := Lib.hid (rsn_good (s := s) (by omega))
    have q1 : (s / 100 == 1) = true := by rw [beq_iff_eq]; omega
    have q2 : (s / 100 == 2) = false := by rw [beq_eq_false_iff_ne]; omega
    have q3 : (s / 100 == 3) = false := by rw [beq_eq_false_iff_ne]; omega
    have q4 : (s / 100 == 4) = false := by rw [beq_eq_false_iff_ne]; omega
    have q5 : (s / 100 == 5) = false := by rw [beq_eq_false_iff_ne]; omega
    have p0 : 0 ≤ s := by omega
    go_enter Tryd.func15, Tryd.ntmps15
    go_wp2_with fail
    refine (good_any s _).mono ?_
    rintro e w1 ⟨rfl, rfl⟩
    go_wp2
    go_ret
    exact ⟨by rw [hr.out]; rfl, rfl⟩
  · have hr := Lib.hid (rsn_good (s := s) (by omega))
    have q1 : (s / 100 == 1) = false := by rw [beq_eq_false_iff_ne]; omega
    have q2 : (s / 100 == 2) = true := by rw [beq_iff_eq]; omega
    have q3 : (s / 100 == 3) = false := by rw [beq_eq_false_iff_ne]; omega
    have q4 : (s / 100 == 4) = false := by rw [beq_eq_false_iff_ne]; omega
    have q5 : (s / 100 == 5) = false := by rw [beq_eq_false_iff_ne]; omega
    have p0 : 0 ≤ s := by omega
    go_enter Tryd.func15, Tryd.ntmps15
    go_wp2_with fail
    refine (good_any s _).mono ?_
    rintro e w1 ⟨rfl, rfl⟩
    go_wp2
    go_ret
    exact ⟨by rw [hr.out]; rfl, rfl⟩
  · have hr := Lib.hid (rsn_good (s := s) (by omega))
    have q1 : (s / 100 == 1) = false := by rw [beq_eq_false_iff_ne]; omega
    have q2 : (s / 100 == 2) = false := by rw [beq_eq_false_iff_ne]; omega
    have q3 : (s / 100 == 3) = true := by rw [beq_iff_eq]; omega
    have q4 : (s / 100 == 4) = false := by rw [beq_eq_false_iff_ne]; omega
    have q5 : (s / 100 == 5) = false := by rw [beq_eq_false_iff_ne]; omega
    have p0 : 0 ≤ s := by omega
    go_enter Tryd.func15, Tryd.ntmps15
    go_wp2_with fail
    refine (good_any s _).mono ?_
    rintro e w1 ⟨rfl, rfl⟩
    go_wp2
    go_ret
    exact ⟨by rw [hr.out]; rfl, rfl⟩
  · have hr := Lib.hid (rsn_refused (s := s) (by omega) (by omega))
    have q1 : (s / 100 == 1) = false := by rw [beq_eq_false_iff_ne]; omega
    have q2 : (s / 100 == 2) = false := by rw [beq_eq_false_iff_ne]; omega
    have q3 : (s / 100 == 3) = false := by rw [beq_eq_false_iff_ne]; omega
    have q4 : (s / 100 == 4) = true := by rw [beq_iff_eq]; omega
    have q5 : (s / 100 == 5) = false := by rw [beq_eq_false_iff_ne]; omega
    have p0 : 0 ≤ s := by omega
    go_enter Tryd.func15, Tryd.ntmps15
    go_wp2_with fail
    refine (refused_any s _).mono ?_
    rintro e w1 ⟨rfl, rfl⟩
    go_wp2
    go_ret
    exact ⟨by rw [hr.out]; rfl, rfl⟩
  · have hr := Lib.hid (rsn_failed (s := s) (by omega))
    have q1 : (s / 100 == 1) = false := by rw [beq_eq_false_iff_ne]; omega
    have q2 : (s / 100 == 2) = false := by rw [beq_eq_false_iff_ne]; omega
    have q3 : (s / 100 == 3) = false := by rw [beq_eq_false_iff_ne]; omega
    have q4 : (s / 100 == 4) = false := by rw [beq_eq_false_iff_ne]; omega
    have q5 : (s / 100 == 5) = true := by rw [beq_iff_eq]; omega
    have p0 : 0 ≤ s := by omega
    go_enter Tryd.func15, Tryd.ntmps15
    go_wp2_with fail
    refine (failed_any s _).mono ?_
    rintro e w1 ⟨rfl, rfl⟩
    go_wp2
    go_ret
    exact ⟨by rw [hr.out]; rfl, rfl⟩
  · have hr := Lib.hid (rsn_none (s := s) (.inr (by omega)))
    have q1 : (s / 100 == 1) = false := by rw [beq_eq_false_iff_ne]; omega
    have q2 : (s / 100 == 2) = false := by rw [beq_eq_false_iff_ne]; omega
    have q3 : (s / 100 == 3) = false := by rw [beq_eq_false_iff_ne]; omega
    have q4 : (s / 100 == 4) = false := by rw [beq_eq_false_iff_ne]; omega
    have q5 : (s / 100 == 5) = false := by rw [beq_eq_false_iff_ne]; omega
    have p0 : 0 ≤ s := by omega
    go_enter Tryd.func15, Tryd.ntmps15
    go_wp2
    go_ret
    exact ⟨by rw [hr.out]; rfl, rfl⟩
end Go.Proofs.YtemlnmelicnneaaDoor
