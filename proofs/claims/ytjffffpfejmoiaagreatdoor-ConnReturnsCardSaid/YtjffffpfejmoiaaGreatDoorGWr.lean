/-
  Several texts in one: HReas, HDig, HWr, HCan, HWrt, HRBody, HResp, HConv.
-/
import Derived.Test.YtjffffpfejmoiaaGreatDoorGByt
import Derived.Test.YtjffffpfejmoiaaGreatDoorShelfIto
import Derived.Lib.ItoaMem
import Derived.Lib.AppendIntMem
import Derived.Deep.RegionWith
/-
  Layer 5: the phrase of a status.
-/
namespace Go.Proofs.YtjffffpfejmoiaaGreatDoor
open Go.RowKit Syn

namespace Hd
def phrG : List (Nat × List UInt8) :=
  [(100, [67, 111, 110, 116, 105, 110, 117, 101]), (101, [83, 119, 105, 116, 99, 104, 105, 110, 103, 32, 80, 114, 111, 116, 111, 99, 111, 108, 115]), (200, [79, 75]), (201, [67, 114, 101, 97, 116, 101, 100]), (202, [65, 99, 99, 101, 112, 116, 101, 100]), (203, [78, 111, 110, 45, 65, 117, 116, 104, 111, 114, 105, 116, 97, 116, 105, 118, 101, 32, 73, 110, 102, 111, 114, 109, 97, 116, 105, 111, 110]), (204, [78, 111, 32, 67, 111, 110, 116, 101, 110, 116]), (206, [80, 97, 114, 116, 105, 97, 108, 32, 67, 111, 110, 116, 101, 110, 116]), (300, [77, 117, 108, 116, 105, 112, 108, 101, 32, 67, 104, 111, 105, 99, 101, 115]), (301, [77, 111, 118, 101, 100, 32, 80, 101, 114, 109, 97, 110, 101, 110, 116, 108, 121]), (302, [70, 111, 117, 110, 100]), (303, [83, 101, 101, 32, 79, 116, 104, 101, 114]), (304, [78, 111, 116, 32, 77, 111, 100, 105, 102, 105, 101, 100]), (307, [84, 101, 109, 112, 111, 114, 97, 114, 121, 32, 82, 101, 100, 105, 114, 101, 99, 116]), (308, [80, 101, 114, 109, 97, 110, 101, 110, 116, 32, 82, 101, 100, 105, 114, 101, 99, 116])]
def phrR : List (Nat × List UInt8) :=
  [(400, [66, 97, 100, 32, 82, 101, 113, 117, 101, 115, 116]), (401, [85, 110, 97, 117, 116, 104, 111, 114, 105, 122, 101, 100]), (403, [70, 111, 114, 98, 105, 100, 100, 101, 110]), (404, [78, 111, 116, 32, 70, 111, 117, 110, 100]), (405, [77, 101, 116, 104, 111, 100, 32, 78, 111, 116, 32, 65, 108, 108, 111, 119, 101, 100]), (408, [82, 101, 113, 117, 101, 115, 116, 32, 84, 105, 109, 101, 111, 117, 116]), (410, [71, 111, 110, 101]), (411, [76, 101, 110, 103, 116, 104, 32, 82, 101, 113, 117, 105, 114, 101, 100]), (412, [80, 114, 101, 99, 111, 110, 100, 105, 116, 105, 111, 110, 32, 70, 97, 105, 108, 101, 100]), (413, [67, 111, 110, 116, 101, 110, 116, 32, 84, 111, 111, 32, 76, 97, 114, 103, 101]), (414, [85, 82, 73, 32, 84, 111, 111, 32, 76, 111, 110, 103]), (416, [82, 97, 110, 103, 101, 32, 78, 111, 116, 32, 83, 97, 116, 105, 115, 102, 105, 97, 98, 108, 101]), (429, [84, 111, 111, 32, 77, 97, 110, 121, 32, 82, 101, 113, 117, 101, 115, 116, 115]), (431, [82, 101, 113, 117, 101, 115, 116, 32, 72, 101, 97, 100, 101, 114, 32, 70, 105, 101, 108, 100, 115, 32, 84, 111, 111, 32, 76, 97, 114, 103, 101])]
def phrF : List (Nat × List UInt8) :=
  [(500, [73, 110, 116, 101, 114, 110, 97, 108, 32, 83, 101, 114, 118, 101, 114, 32, 69, 114, 114, 111, 114]), (501, [78, 111, 116, 32, 73, 109, 112, 108, 101, 109, 101, 110, 116, 101, 100]), (502, [66, 97, 100, 32, 71, 97, 116, 101, 119, 97, 121]), (503, [83, 101, 114, 118, 105, 99, 101, 32, 85, 110, 97, 118, 97, 105, 108, 97, 98, 108, 101]), (504, [71, 97, 116, 101, 119, 97, 121, 32, 84, 105, 109, 101, 111, 117, 116])]
def lk (l : List (Nat × List UInt8)) (s : Int) : List UInt8 := match l.find? (fun p => decide ((p.1 : Int) = s)) with
  | some p => p.2
  | none => []
theorem lk_none {l : List (Nat × List UInt8)} {s : Int} (h : ∀ p ∈ l, (p.1 : Int) ≠ s) : lk l s = [] := by
  unfold lk
  rw [List.find?_eq_none.2 (fun p hp => by simpa using h p hp)]
def phr : List (Nat × List UInt8) := phrG ++ (phrR ++ phrF)
/-- The phrase of a status. -/
def rsn (s : Int) : List UInt8 := lk phr s
theorem lk_app (a b : List (Nat × List UInt8)) (s : Int) : lk (a ++ b) s = if (a.find? (fun p => decide ((p.1 : Int) = s))).isSome then lk a s else lk b s := by
  unfold lk
  rw [List.find?_append]
  cases h : a.find? (fun p => decide ((p.1 : Int) = s)) <;> simp
theorem lk_left {a b : List (Nat × List UInt8)} {s : Int} (h : ∀ p ∈ b, (p.1 : Int) ≠ s) : lk (a ++ b) s = lk a s := by
  rw [lk_app]
  split
  · rfl
  · rename_i hn
    rw [lk_none h]
    unfold lk
    cases hx : a.find? (fun p => decide ((p.1 : Int) = s)) with
    | none => rfl
    | some p => rw [hx] at hn; simp at hn
theorem lk_right {a b : List (Nat × List UInt8)} {s : Int} (h : ∀ p ∈ a, (p.1 : Int) ≠ s) : lk (a ++ b) s = lk b s := by
  rw [lk_app, List.find?_eq_none.2 (fun p hp => by simpa using h p hp)]
  rfl
theorem phrG_lt : ∀ p ∈ phrG, 100 ≤ p.1 ∧ p.1 < 400 := by decide
theorem phrR_lt : ∀ p ∈ phrR, 400 ≤ p.1 ∧ p.1 < 500 := by decide
theorem phrF_lt : ∀ p ∈ phrF, 500 ≤ p.1 ∧ p.1 < 600 := by decide
theorem rsn_good {s : Int} (h : s < 400) : rsn s = lk phrG s := by
  unfold rsn phr
  refine lk_left (fun p hp => ?_)
  rcases List.mem_append.1 hp with hp | hp
  · have := phrR_lt p hp; omega
  · have := phrF_lt p hp; omega
theorem rsn_refused {s : Int} (h : 400 ≤ s) (h2 : s < 500) : rsn s = lk phrR s := by
  unfold rsn phr
  rw [lk_right (fun p hp => by have := phrG_lt p hp; omega)]
  exact lk_left (fun p hp => by have := phrF_lt p hp; omega)
theorem rsn_failed {s : Int} (h : 500 ≤ s) : rsn s = lk phrF s := by
  unfold rsn phr
  rw [lk_right (fun p hp => by have := phrG_lt p hp; omega)]
  exact lk_right (fun p hp => by have := phrR_lt p hp; omega)
theorem rsn_none {s : Int} (h : s < 100 ∨ 600 ≤ s) : rsn s = [] := by
  refine lk_none (fun p hp => ?_)
  unfold phr at hp
  rcases List.mem_append.1 hp with hp | hp
  · have := phrG_lt p hp; omega
  · rcases List.mem_append.1 hp with hp | hp
    · have := phrR_lt p hp; omega
    · have := phrF_lt p hp; omega
theorem rsn_len (s : Int) : (rsn s).length ≤ 40 := by
  unfold rsn lk
  have h : ∀ p ∈ phr, p.2.length ≤ 40 := by decide
  cases hx : phr.find? (fun p => decide ((p.1 : Int) = s)) with
  | none => simp
  | some p => exact h p (List.mem_of_find?_eq_some hx)
end Hd
open Hd
set_option maxHeartbeats 4000000 in
theorem good_any (s : Int) (w : World) : Calls Tryz.prog 83 #[.int .i64 s] w fun e w' => e = .returned (.string (str (lk phrG s))) ∧ w' = w := by
  by_cases h0 : s = 100
  · subst h0
    go_enter Tryz.func83, Tryz.ntmps83
    go_wp2
    go_ret
    exact ⟨rfl, rfl⟩
  have q0 : (s == 100) = false := by rw [beq_eq_false_iff_ne]; exact h0
  by_cases h1 : s = 101
  · subst h1
    go_enter Tryz.func83, Tryz.ntmps83
    go_wp2
    go_ret
    exact ⟨rfl, rfl⟩
  have q1 : (s == 101) = false := by rw [beq_eq_false_iff_ne]; exact h1
  by_cases h2 : s = 200
  · subst h2
    go_enter Tryz.func83, Tryz.ntmps83
    go_wp2
    go_ret
    exact ⟨rfl, rfl⟩
  have q2 : (s == 200) = false := by rw [beq_eq_false_iff_ne]; exact h2
  by_cases h3 : s = 201
  · subst h3
    go_enter Tryz.func83, Tryz.ntmps83
    go_wp2
    go_ret
    exact ⟨rfl, rfl⟩
  have q3 : (s == 201) = false := by rw [beq_eq_false_iff_ne]; exact h3
  by_cases h4 : s = 202
  · subst h4
    go_enter Tryz.func83, Tryz.ntmps83
    go_wp2
    go_ret
    exact ⟨rfl, rfl⟩
  have q4 : (s == 202) = false := by rw [beq_eq_false_iff_ne]; exact h4
  by_cases h5 : s = 203
  · subst h5
    go_enter Tryz.func83, Tryz.ntmps83
    go_wp2
    go_ret
    exact ⟨rfl, rfl⟩
  have q5 : (s == 203) = false := by rw [beq_eq_false_iff_ne]; exact h5
  by_cases h6 : s = 204
  · subst h6
    go_enter Tryz.func83, Tryz.ntmps83
    go_wp2
    go_ret
    exact ⟨rfl, rfl⟩
  have q6 : (s == 204) = false := by rw [beq_eq_false_iff_ne]; exact h6
  by_cases h7 : s = 206
  · subst h7
    go_enter Tryz.func83, Tryz.ntmps83
    go_wp2
    go_ret
    exact ⟨rfl, rfl⟩
  have q7 : (s == 206) = false := by rw [beq_eq_false_iff_ne]; exact h7
  by_cases h8 : s = 300
  · subst h8
    go_enter Tryz.func83, Tryz.ntmps83
    go_wp2
    go_ret
    exact ⟨rfl, rfl⟩
  have q8 : (s == 300) = false := by rw [beq_eq_false_iff_ne]; exact h8
  by_cases h9 : s = 301
  · subst h9
    go_enter Tryz.func83, Tryz.ntmps83
    go_wp2
    go_ret
    exact ⟨rfl, rfl⟩
  have q9 : (s == 301) = false := by rw [beq_eq_false_iff_ne]; exact h9
  by_cases h10 : s = 302
  · subst h10
    go_enter Tryz.func83, Tryz.ntmps83
    go_wp2
    go_ret
    exact ⟨rfl, rfl⟩
  have q10 : (s == 302) = false := by rw [beq_eq_false_iff_ne]; exact h10
  by_cases h11 : s = 303
  · subst h11
    go_enter Tryz.func83, Tryz.ntmps83
    go_wp2
    go_ret
    exact ⟨rfl, rfl⟩
  have q11 : (s == 303) = false := by rw [beq_eq_false_iff_ne]; exact h11
  by_cases h12 : s = 304
  · subst h12
    go_enter Tryz.func83, Tryz.ntmps83
    go_wp2
    go_ret
    exact ⟨rfl, rfl⟩
  have q12 : (s == 304) = false := by rw [beq_eq_false_iff_ne]; exact h12
  by_cases h13 : s = 307
  · subst h13
    go_enter Tryz.func83, Tryz.ntmps83
    go_wp2
    go_ret
    exact ⟨rfl, rfl⟩
  have q13 : (s == 307) = false := by rw [beq_eq_false_iff_ne]; exact h13
  by_cases h14 : s = 308
  · subst h14
    go_enter Tryz.func83, Tryz.ntmps83
    go_wp2
    go_ret
    exact ⟨rfl, rfl⟩
  have q14 : (s == 308) = false := by rw [beq_eq_false_iff_ne]; exact h14
  have hn : Hid (lk phrG s = []) := Lib.hid (lk_none (fun p hp => by
    simp only [phrG, List.mem_cons, List.not_mem_nil, or_false] at hp
    rcases hp with rfl | rfl | rfl | rfl | rfl | rfl | rfl | rfl | rfl | rfl | rfl | rfl | rfl | rfl | rfl <;> simp only <;> omega))
  clear h0
  clear h1
  clear h2
  clear h3
  clear h4
  clear h5
  clear h6
  clear h7
  clear h8
  clear h9
  clear h10
  clear h11
  clear h12
  clear h13
  clear h14
  go_enter Tryz.func83, Tryz.ntmps83
  go_wp2
  go_ret
  exact ⟨by rw [hn.out]; rfl, rfl⟩
set_option maxHeartbeats 4000000 in
theorem refused_any (s : Int) (w : World) : Calls Tryz.prog 84 #[.int .i64 s] w fun e w' => e = .returned (.string (str (lk phrR s))) ∧ w' = w := by
  by_cases h0 : s = 400
  · subst h0
    go_enter Tryz.func84, Tryz.ntmps84
    go_wp2
    go_ret
    exact ⟨rfl, rfl⟩
  have q0 : (s == 400) = false := by rw [beq_eq_false_iff_ne]; exact h0
  by_cases h1 : s = 401
  · subst h1
    go_enter Tryz.func84, Tryz.ntmps84
    go_wp2
    go_ret
    exact ⟨rfl, rfl⟩
  have q1 : (s == 401) = false := by rw [beq_eq_false_iff_ne]; exact h1
  by_cases h2 : s = 403
  · subst h2
    go_enter Tryz.func84, Tryz.ntmps84
    go_wp2
    go_ret
    exact ⟨rfl, rfl⟩
  have q2 : (s == 403) = false := by rw [beq_eq_false_iff_ne]; exact h2
  by_cases h3 : s = 404
  · subst h3
    go_enter Tryz.func84, Tryz.ntmps84
    go_wp2
    go_ret
    exact ⟨rfl, rfl⟩
  have q3 : (s == 404) = false := by rw [beq_eq_false_iff_ne]; exact h3
  by_cases h4 : s = 405
  · subst h4
    go_enter Tryz.func84, Tryz.ntmps84
    go_wp2
    go_ret
    exact ⟨rfl, rfl⟩
  have q4 : (s == 405) = false := by rw [beq_eq_false_iff_ne]; exact h4
  by_cases h5 : s = 408
  · subst h5
    go_enter Tryz.func84, Tryz.ntmps84
    go_wp2
    go_ret
    exact ⟨rfl, rfl⟩
  have q5 : (s == 408) = false := by rw [beq_eq_false_iff_ne]; exact h5
  by_cases h6 : s = 410
  · subst h6
    go_enter Tryz.func84, Tryz.ntmps84
    go_wp2
    go_ret
    exact ⟨rfl, rfl⟩
  have q6 : (s == 410) = false := by rw [beq_eq_false_iff_ne]; exact h6
  by_cases h7 : s = 411
  · subst h7
    go_enter Tryz.func84, Tryz.ntmps84
    go_wp2
    go_ret
    exact ⟨rfl, rfl⟩
  have q7 : (s == 411) = false := by rw [beq_eq_false_iff_ne]; exact h7
  by_cases h8 : s = 412
  · subst h8
    go_enter Tryz.func84, Tryz.ntmps84
    go_wp2
    go_ret
    exact ⟨rfl, rfl⟩
  have q8 : (s == 412) = false := by rw [beq_eq_false_iff_ne]; exact h8
  by_cases h9 : s = 413
  · subst h9
    go_enter Tryz.func84, Tryz.ntmps84
    go_wp2
    go_ret
    exact ⟨rfl, rfl⟩
  have q9 : (s == 413) = false := by rw [beq_eq_false_iff_ne]; exact h9
  by_cases h10 : s = 414
  · subst h10
    go_enter Tryz.func84, Tryz.ntmps84
    go_wp2
    go_ret
    exact ⟨rfl, rfl⟩
  have q10 : (s == 414) = false := by rw [beq_eq_false_iff_ne]; exact h10
  by_cases h11 : s = 416
  · subst h11
    go_enter Tryz.func84, Tryz.ntmps84
    go_wp2
    go_ret
    exact ⟨rfl, rfl⟩
  have q11 : (s == 416) = false := by rw [beq_eq_false_iff_ne]; exact h11
  by_cases h12 : s = 429
  · subst h12
    go_enter Tryz.func84, Tryz.ntmps84
    go_wp2
    go_ret
    exact ⟨rfl, rfl⟩
  have q12 : (s == 429) = false := by rw [beq_eq_false_iff_ne]; exact h12
  by_cases h13 : s = 431
  · subst h13
    go_enter Tryz.func84, Tryz.ntmps84
    go_wp2
    go_ret
    exact ⟨rfl, rfl⟩
  have q13 : (s == 431) = false := by rw [beq_eq_false_iff_ne]; exact h13
  have hn : Hid (lk phrR s = []) := Lib.hid (lk_none (fun p hp => by
    simp only [phrR, List.mem_cons, List.not_mem_nil, or_false] at hp
    rcases hp with rfl | rfl | rfl | rfl | rfl | rfl | rfl | rfl | rfl | rfl | rfl | rfl | rfl | rfl <;> simp only <;> omega))
  clear h0
  clear h1
  clear h2
  clear h3
  clear h4
  clear h5
  clear h6
  clear h7
  clear h8
  clear h9
  clear h10
  clear h11
  clear h12
  clear h13
  go_enter Tryz.func84, Tryz.ntmps84
  go_wp2
  go_ret
  exact ⟨by rw [hn.out]; rfl, rfl⟩
set_option maxHeartbeats 4000000 in
theorem failed_any (s : Int) (w : World) : Calls Tryz.prog 85 #[.int .i64 s] w fun e w' => e = .returned (.string (str (lk phrF s))) ∧ w' = w := by
  by_cases h0 : s = 500
  · subst h0
    go_enter Tryz.func85, Tryz.ntmps85
    go_wp2
    go_ret
    exact ⟨rfl, rfl⟩
  have q0 : (s == 500) = false := by rw [beq_eq_false_iff_ne]; exact h0
  by_cases h1 : s = 501
  · subst h1
    go_enter Tryz.func85, Tryz.ntmps85
    go_wp2
    go_ret
    exact ⟨rfl, rfl⟩
  have q1 : (s == 501) = false := by rw [beq_eq_false_iff_ne]; exact h1
  by_cases h2 : s = 502
  · subst h2
    go_enter Tryz.func85, Tryz.ntmps85
    go_wp2
    go_ret
    exact ⟨rfl, rfl⟩
  have q2 : (s == 502) = false := by rw [beq_eq_false_iff_ne]; exact h2
  by_cases h3 : s = 503
  · subst h3
    go_enter Tryz.func85, Tryz.ntmps85
    go_wp2
    go_ret
    exact ⟨rfl, rfl⟩
  have q3 : (s == 503) = false := by rw [beq_eq_false_iff_ne]; exact h3
  by_cases h4 : s = 504
  · subst h4
    go_enter Tryz.func85, Tryz.ntmps85
    go_wp2
    go_ret
    exact ⟨rfl, rfl⟩
  have q4 : (s == 504) = false := by rw [beq_eq_false_iff_ne]; exact h4
  have hn : Hid (lk phrF s = []) := Lib.hid (lk_none (fun p hp => by
    simp only [phrF, List.mem_cons, List.not_mem_nil, or_false] at hp
    rcases hp with rfl | rfl | rfl | rfl | rfl <;> simp only <;> omega))
  clear h0
  clear h1
  clear h2
  clear h3
  clear h4
  go_enter Tryz.func85, Tryz.ntmps85
  go_wp2
  go_ret
  exact ⟨by rw [hn.out]; rfl, rfl⟩
set_option maxHeartbeats 4000000 in
theorem reason_any (s : Int) (hs : -9223372036854775808 ≤ s) (hs2 : s ≤ 9223372036854775807) (w : World) : Calls Tryz.prog 63 #[.int .i64 s] w fun e w' => e = .returned (.string (str (rsn s))) ∧ w' = w := by
  rcases (show s < 0 ∨ (0 ≤ s ∧ s < 100) ∨ (100 ≤ s ∧ s < 200) ∨ (200 ≤ s ∧ s < 300) ∨ (300 ≤ s ∧ s < 400) ∨ (400 ≤ s ∧ s < 500) ∨ (500 ≤ s ∧ s < 600) ∨ 600 ≤ s by omega) with h | h | h | h | h | h | h | h
  · have hr := Lib.hid (rsn_none (s := s) (.inl (by omega)))
    have ht : s.tdiv 100 ≤ 0 := by
      have := Int.tdiv_nonneg (a := -s) (b := 100) (by omega) (by omega)
      rw [Int.neg_tdiv] at this
      omega
    have q1 : (s.tdiv 100 == 1) = false := by rw [beq_eq_false_iff_ne]; omega
    have q2 : (s.tdiv 100 == 2) = false := by rw [beq_eq_false_iff_ne]; omega
    have q3 : (s.tdiv 100 == 3) = false := by rw [beq_eq_false_iff_ne]; omega
    have q4 : (s.tdiv 100 == 4) = false := by rw [beq_eq_false_iff_ne]; omega
    have q5 : (s.tdiv 100 == 5) = false := by rw [beq_eq_false_iff_ne]; omega
    clear ht
    go_enter Tryz.func63, Tryz.ntmps63
    go_wp2
    go_ret
    exact ⟨by rw [hr.out]; rfl, rfl⟩
  · have hr := Lib.hid (rsn_none (s := s) (.inl (by omega)))
    have q1 : (s / 100 == 1) = false := by rw [beq_eq_false_iff_ne]; omega
    have q2 : (s / 100 == 2) = false := by rw [beq_eq_false_iff_ne]; omega
    have q3 : (s / 100 == 3) = false := by rw [beq_eq_false_iff_ne]; omega
    have q4 : (s / 100 == 4) = false := by rw [beq_eq_false_iff_ne]; omega
    have q5 : (s / 100 == 5) = false := by rw [beq_eq_false_iff_ne]; omega
    have p0 : 0 ≤ s := by omega
    go_enter Tryz.func63, Tryz.ntmps63
    go_wp2
    go_ret
    exact ⟨by rw [hr.out]; rfl, rfl⟩
  · have hr := Lib.hid (rsn_good (s := s) (by omega))
    have q1 : (s / 100 == 1) = true := by rw [beq_iff_eq]; omega
    have q2 : (s / 100 == 2) = false := by rw [beq_eq_false_iff_ne]; omega
    have q3 : (s / 100 == 3) = false := by rw [beq_eq_false_iff_ne]; omega
    have q4 : (s / 100 == 4) = false := by rw [beq_eq_false_iff_ne]; omega
    have q5 : (s / 100 == 5) = false := by rw [beq_eq_false_iff_ne]; omega
    have p0 : 0 ≤ s := by omega
    go_enter Tryz.func63, Tryz.ntmps63
    go_wp2_with fail
    refine (good_any s _).mono ?_
    rintro e w1 ⟨rfl, rfl⟩
    go_wp2
    go_ret
    exact ⟨by rw [hr.out]; rfl, rfl⟩
  · have hr := Lib.hid (rsn_good (s := s) (by omega))
    have q1 : (s / 100 == 1) = false := by rw [beq_eq_false_iff_ne]; omega
    have q2 : (s / 100 == 2) = true := by rw [beq_iff_eq]; omega
    have q3 : (s / 100 == 3) = false := by rw [beq_eq_false_iff_ne]; omega
    have q4 : (s / 100 == 4) = false := by rw [beq_eq_false_iff_ne]; omega
    have q5 : (s / 100 == 5) = false := by rw [beq_eq_false_iff_ne]; omega
    have p0 : 0 ≤ s := by omega
    go_enter Tryz.func63, Tryz.ntmps63
    go_wp2_with fail
    refine (good_any s _).mono ?_
    rintro e w1 ⟨rfl, rfl⟩
    go_wp2
    go_ret
    exact ⟨by rw [hr.out]; rfl, rfl⟩
  · have hr := Lib.hid (rsn_good (s := s) (by omega))
    have q1 : (s / 100 == 1) = false := by rw [beq_eq_false_iff_ne]; omega
    have q2 : (s / 100 == 2) = false := by rw [beq_eq_false_iff_ne]; omega
    have q3 : (s / 100 == 3) = true := by rw [beq_iff_eq]; omega
    have q4 : (s / 100 == 4) = false := by rw [beq_eq_false_iff_ne]; omega
    have q5 : (s / 100 == 5) = false := by rw [beq_eq_false_iff_ne]; omega
    have p0 : 0 ≤ s := by omega
    go_enter Tryz.func63, Tryz.ntmps63
    go_wp2_with fail
    refine (good_any s _).mono ?_
    rintro e w1 ⟨rfl, rfl⟩
    go_wp2
    go_ret
    exact ⟨by rw [hr.out]; rfl, rfl⟩
  · have hr := Lib.hid (rsn_refused (s := s) (by omega) (by omega))
    have q1 : (s / 100 == 1) = false := by rw [beq_eq_false_iff_ne]; omega
    have q2 : (s / 100 == 2) = false := by rw [beq_eq_false_iff_ne]; omega
    have q3 : (s / 100 == 3) = false := by rw [beq_eq_false_iff_ne]; omega
    have q4 : (s / 100 == 4) = true := by rw [beq_iff_eq]; omega
    have q5 : (s / 100 == 5) = false := by rw [beq_eq_false_iff_ne]; omega
    have p0 : 0 ≤ s := by omega
    go_enter Tryz.func63, Tryz.ntmps63
    go_wp2_with fail
    refine (refused_any s _).mono ?_
    rintro e w1 ⟨rfl, rfl⟩
    go_wp2
    go_ret
    exact ⟨by rw [hr.out]; rfl, rfl⟩
  · have hr := Lib.hid (rsn_failed (s := s) (by omega))
    have q1 : (s / 100 == 1) = false := by rw [beq_eq_false_iff_ne]; omega
    have q2 : (s / 100 == 2) = false := by rw [beq_eq_false_iff_ne]; omega
    have q3 : (s / 100 == 3) = false := by rw [beq_eq_false_iff_ne]; omega
    have q4 : (s / 100 == 4) = false := by rw [beq_eq_false_iff_ne]; omega
    have q5 : (s / 100 == 5) = true := by rw [beq_iff_eq]; omega
    have p0 : 0 ≤ s := by omega
    go_enter Tryz.func63, Tryz.ntmps63
    go_wp2_with fail
    refine (failed_any s _).mono ?_
    rintro e w1 ⟨rfl, rfl⟩
    go_wp2
    go_ret
    exact ⟨by rw [hr.out]; rfl, rfl⟩
  · have hr := Lib.hid (rsn_none (s := s) (.inr (by omega)))
    have q1 : (s / 100 == 1) = false := by rw [beq_eq_false_iff_ne]; omega
    have q2 : (s / 100 == 2) = false := by rw [beq_eq_false_iff_ne]; omega
    have q3 : (s / 100 == 3) = false := by rw [beq_eq_false_iff_ne]; omega
    have q4 : (s / 100 == 4) = false := by rw [beq_eq_false_iff_ne]; omega
    have q5 : (s / 100 == 5) = false := by rw [beq_eq_false_iff_ne]; omega
    have p0 : 0 ≤ s := by omega
    go_enter Tryz.func63, Tryz.ntmps63
    go_wp2
    go_ret
    exact ⟨by rw [hr.out]; rfl, rfl⟩
end Go.Proofs.YtjffffpfejmoiaaGreatDoor
/-
  Layer 5: three digits, and the document's phrases.
-/
namespace Go.Proofs.YtjffffpfejmoiaaGreatDoor
open Go.RowKit Syn Hd

namespace Hd
/-- Three digits. -/
def dg3 (n : Nat) : List UInt8 := [UInt8.ofNat (48 + n / 100), UInt8.ofNat (48 + n / 10 % 10), UInt8.ofNat (48 + n % 10)]
end Hd
open Hd
theorem run_three (w : World) (a b c : UInt8) :
    (convert 23 9 (Value.slice (some ⟨w.heap.size, 0, none⟩) 3 3)).run Tryz.prog (w.alloc (.cells #[.int .u8 (a.toNat : Int), .int .u8 (b.toNat : Int), .int .u8 (c.toNat : Int)] 5)) = Result.ok (Value.string (str [a, b, c])) (w.alloc (.cells #[.int .u8 (a.toNat : Int), .int .u8 (b.toNat : Int), .int .u8 (c.toNat : Int)] 5)) := by
  have hB := Blk.new w 5 #[.int .u8 (a.toNat : Int), .int .u8 (b.toNat : Int), .int .u8 (c.toNat : Int)]
  exact run_convert_bytes_back _ 23 9 5 ⟨w.heap.size, 0, none⟩ 3 [a, b, c] Tryz.underlying23 Tryz.underlying5 Tryz.underlying9 (fun j hj => by
    have hadd : (⟨w.heap.size, 0, none⟩ : Addr).add j = ⟨w.heap.size, j, none⟩ := by unfold Addr.add; split <;> simp_all
    rw [hadd, hB.cell j]
    match j, hj with
    | 0, _ => rfl
    | 1, _ => rfl
    | 2, _ => rfl)
theorem digit_byte {k : Nat} (h : k < 10) : ((UInt8.ofNat (48 + k)).toNat : Int) = 48 + (k : Int) := by
  rw [UInt8.toNat_ofNat_of_lt' (by show 48 + k < 256; omega)]; omega
namespace Hd
/-- The document's list. -/
def items : List (List UInt8) := phr.map fun p => dg3 p.1 ++ 32 :: p.2
theorem items_at {k : Nat} (h : k < phr.length) : items[k]? = some (dg3 phr[k].1 ++ 32 :: phr[k].2) := by
  unfold items; rw [List.getElem?_map, List.getElem?_eq_getElem h]; rfl
theorem dg3_inj {a b : Nat} (ha : a < 1000) (hb : b < 1000) (h : dg3 a = dg3 b) : a = b := by
  unfold dg3 at h
  simp only [List.cons.injEq, and_true] at h
  have e : ∀ {x y : Nat}, x < 10 → y < 10 → UInt8.ofNat (48 + x) = UInt8.ofNat (48 + y) → x = y := fun hx hy h => by
    have := congrArg UInt8.toNat h
    rw [UInt8.toNat_ofNat_of_lt' (by show 48 + _ < 256; omega), UInt8.toNat_ofNat_of_lt' (by show 48 + _ < 256; omega)] at this
    omega
  have h1 := e (by omega) (by omega) h.1
  have h2 := e (by omega) (by omega) h.2.1
  have h3 := e (by omega) (by omega) h.2.2
  omega
theorem phr_len : phr.length = 34 := rfl
theorem phr_lt : ∀ p ∈ phr, 100 ≤ p.1 ∧ p.1 < 600 := by decide
theorem rsn_at {k : Nat} (h : k < phr.length) {s : Int} (hs : (phr[k].1 : Int) = s) (hn : ∀ i (hi : i < k), (phr[i]'(by omega)).1 ≠ phr[k].1) : rsn s = phr[k].2 := by
  unfold rsn lk
  have : phr.find? (fun p => decide ((p.1 : Int) = s)) = some phr[k] := by
    rw [List.find?_eq_some_iff_getElem]
    refine ⟨by simpa using hs, k, h, rfl, fun j hj => ?_⟩
    have := hn j hj
    simp
    omega
  rw [this]
theorem phr_inj : ∀ k (h : k < phr.length) i (hi : i < k), (phr[i]'(by omega)).1 ≠ phr[k].1 := by decide
end Hd
end Go.Proofs.YtjffffpfejmoiaaGreatDoor
/-
  Layer 5: heads are written: what they are (plain), and the parts of the code.
-/
namespace Go.Proofs.YtjffffpfejmoiaaGreatDoor
open Go.RowKit Syn Hd Ck

namespace Hd
/-- A field that can be written. -/
def okC (p : List UInt8 × List UInt8) : Bool := decide (nmE p.1 = 0) && (decide (vlE p.2 = 0) && decide (vlV p.2 = p.2))
def okCs (l : List (List UInt8 × List UInt8)) : Bool := l.all okC
def can (l : List (List UInt8 × List UInt8)) : List (List UInt8 × List UInt8) := l.map fun p => (nmV p.1, p.2)
/-- A field's line. -/
def ln (p : List UInt8 × List UInt8) : List UInt8 := p.1 ++ [58, 32] ++ p.2 ++ [13, 10]
def lns (l : List (List UInt8 × List UInt8)) : List UInt8 := l.flatMap ln
def largeB (start : Nat) (l : List (List UInt8 × List UInt8)) : Bool := decide (64 < l.length) || decide (8192 < start + 2 + ((lns l).length + 2))
/-- A head. -/
def headB (start : List UInt8) (l : List (List UInt8 × List UInt8)) : List UInt8 := start ++ [13, 10] ++ lns l ++ [13, 10]
theorem okC_iff (n v : List UInt8) : okC (n, v) = true ↔ nmE n = 0 ∧ vlE v = 0 ∧ vlV v = v := by
  unfold okC; simp [Bool.and_eq_true]
theorem okCs_take {l : List (List UInt8 × List UInt8)} {k : Nat} (h : k < l.length) : okCs (l.take (k + 1)) = (okCs (l.take k) && okC l[k]) := by
  unfold okCs; rw [List.take_succ_eq_append_getElem h, List.all_append]; simp
theorem okCs_no {l : List (List UInt8 × List UInt8)} {k : Nat} (h : k < l.length) (h2 : okC l[k] = false) : okCs l = false := by
  unfold okCs
  rw [List.all_eq_false]
  exact ⟨l[k], List.getElem_mem h, by rw [h2]; simp⟩
theorem lns_take {l : List (List UInt8 × List UInt8)} {k : Nat} (h : k < l.length) : lns (l.take (k + 1)) = lns (l.take k) ++ ln l[k] := by
  unfold lns; rw [List.take_succ_eq_append_getElem h, List.flatMap_append]; simp
theorem can_take {l : List (List UInt8 × List UInt8)} {k : Nat} (h : k < l.length) : can (l.take (k + 1)) = can (l.take k) ++ [(nmV l[k].1, l[k].2)] := by
  unfold can; rw [List.take_succ_eq_append_getElem h, List.map_append]; rfl
theorem ln_len (p : List UInt8 × List UInt8) : (ln p).length = p.1.length + p.2.length + 4 := by
  unfold ln; simp only [List.length_append, List.length_cons, List.length_nil]; omega
theorem lns_len : ∀ (l : List (List UInt8 × List UInt8)) (M : Nat), (∀ p ∈ l, p.1.length ≤ M ∧ p.2.length ≤ M) → (lns l).length ≤ l.length * (2 * M + 4)
  | [], _, _ => by simp [lns]
  | p :: r, M, h => by
    have h1 := ln_len p
    have h3 := h p (by simp)
    have h2 := lns_len r M (fun q hq => h q (by simp [hq]))
    have e : lns (p :: r) = ln p ++ lns r := rfl
    rw [e, List.length_append, List.length_cons, Nat.add_mul]
    omega
theorem lns_le (l : List (List UInt8 × List UInt8)) (k : Nat) : (lns (l.take k)).length ≤ (lns l).length := by
  have e : lns l = lns (l.take k) ++ lns (l.drop k) := by unfold lns; rw [← List.flatMap_append, List.take_append_drop]
  rw [e, List.length_append]; omega
end Hd
set_option maxRecDepth 100000 in
set_option maxHeartbeats 4000000 in
theorem hsize_any (l : List (List UInt8 × List UInt8)) (v : Value) (w : World) (hR : Rd w 2 v l.length (prs l)) (hs : ∀ p ∈ l, p.1.length ≤ 1000000 ∧ p.2.length ≤ 1000000) (hm : l.length ≤ 1000) :
    Calls Tryz.prog 45 #[v] w fun e w' => e = .returned (.int .i64 (((lns l).length + 2 : Nat) : Int)) ∧ Below w.heap.size w w' := by
  obtain ⟨A, cap, rfl, hcap, -, -⟩ := id hR
  have hlen := lns_len l 1000000 hs
  have hll := Lib.hid (fun k => lns_le l k)
  replace hR := Lib.hid hR
  replace hs := Lib.hid hs
  go_enter Tryz.func45, Tryz.ntmps45
  go_wp2
  go_loopw [3, 8] (fun t i wr => ∃ k m : Nat, i = .int .i64 (k : Int) ∧ k ≤ l.length ∧ t = .int .i64 (m : Int) ∧ m ≤ 2000010000 ∧ Hid (m = (lns (l.take k)).length + 2) ∧ Hid (Below w.heap.size w wr)) (fun _ i _ => l.length - (intOf i).toNat)
  case atStart => exact ⟨0, 2, rfl, by omega, rfl, by omega, Lib.hid rfl, Lib.hid (Below.refl _ _)⟩
  case round =>
    obtain ⟨k, m, rfl, hk, rfl, hm2, hmk, hB⟩ := hrel
    by_cases hlt : k < l.length
    · obtain ⟨A', cap', e', -, -, r'⟩ := hR.out.below hB.out
      cases e'
      obtain ⟨b1, o1, rfl, hb1, x1⟩ := r' (by omega)
      have d1 : wr.cell? ⟨b1, o1 + k * 2, none⟩ = some (.string (str l[k].1)) := x1 _ _ (prs_at0 hlt)
      have d2 : wr.cell? ⟨b1, o1 + k * 2 + 1, none⟩ = some (.string (str l[k].2)) := x1 _ _ (prs_at1 hlt)
      have hsz := hs.out l[k] (List.getElem_mem hlt)
      have hln := ln_len l[k]
      have hlt2 := congrArg List.length (lns_take hlt)
      have hl2 := hll.out (k + 1)
      rw [List.length_append] at hlt2
      generalize l[k] = p at *
      obtain ⟨nm, vl⟩ := p
      simp only at d1 d2 hsz hln
      have z1 := str_size nm
      have z2 := str_size vl
      have hA1 := Lib.hid (hB.out.alloc hB.out.size (.cells #[.string (str nm), .string (str vl)] 26))
      have hnew : m + (nm.length + vl.length + 4) = (lns (l.take (k + 1))).length + 2 := by have := hmk.out; omega
      have hbd : m + (nm.length + vl.length + 4) ≤ 2000010000 := by omega
      replace hnew := Lib.hid hnew
      replace hlt2 := Lib.hid hlt2
      replace hl2 := Lib.hid hl2
      replace hln := Lib.hid hln
      clear x1 r'
      go_wp2
      go_roundw
      case rel => exact ⟨k + 1, m + (nm.length + vl.length + 4), by go_num, by omega, by go_num, hbd, hnew, hA1⟩
      case measure => simp only [intOf]; omega
    · obtain rfl : k = l.length := by omega
      have hmk2 := hmk.out
      rw [List.take_length] at hmk2
      replace hmk2 := Lib.hid hmk2
      go_wp2
      go_ret
      exact ⟨by rw [← hmk2.out]; rfl, hB.out⟩
set_option maxRecDepth 100000 in
set_option maxHeartbeats 4000000 in
theorem hlarge_any (st : Nat) (l : List (List UInt8 × List UInt8)) (v : Value) (w : World) (hst : st ≤ 1000000) (hR : Rd w 2 v l.length (prs l)) (hs : ∀ p ∈ l, p.1.length ≤ 1000000 ∧ p.2.length ≤ 1000000) (hm : l.length ≤ 1000) :
    Calls Tryz.prog 23 #[.int .i64 (st : Int), v] w fun e w' => e = .returned (.bool (largeB st l)) ∧ Below w.heap.size w w' := by
  obtain ⟨A, cap, rfl, hcap, -, -⟩ := id hR
  have hlen := lns_len l 1000000 hs
  have hS := Lib.hid (hsize_any l _ w hR hs hm)
  have hL : largeB st l = (decide (64 < l.length) || decide (8192 < st + 2 + ((lns l).length + 2))) := rfl
  replace hR := Lib.hid hR
  replace hs := Lib.hid hs
  by_cases h64 : 64 < l.length
  · have hres := Lib.hid (show largeB st l = true by rw [hL, decide_eq_true h64]; rfl)
    clear hL
    go_enter Tryz.func23, Tryz.ntmps23
    go_wp2
    go_ret
    exact ⟨by rw [hres.out]; rfl, Below.refl _ _⟩
  · replace hL := Lib.hid hL
    go_enter Tryz.func23, Tryz.ntmps23
    go_wp2_with fail
    refine hS.out.mono ?_
    rintro e w1 ⟨rfl, hb1⟩
    replace hb1 := Lib.hid hb1
    go_wp2
    go_ret
    refine ⟨congrArg (fun b => Ending.returned (Value.bool b)) (show (decide ((64 : Int) < (l.length : Int)) || decide ((8192 : Int) < (st : Int) + 2 + (((lns l).length : Int) + 2))) = largeB st l from ?_), hb1.out⟩
    rw [hL.out]
    congr 1
    · exact decide_eq_decide.2 (by omega)
    · exact decide_eq_decide.2 (by omega)
end Go.Proofs.YtjffffpfejmoiaaGreatDoor
/-
  Layer 5: canonical fields.
-/
namespace Go.Proofs.YtjffffpfejmoiaaGreatDoor
open Go.RowKit Syn Hd Ck

theorem herr_ne {n : Int} (h : n ≠ 0) : errV n = .iface 57 (.int .i64 n) := by unfold errV; rw [if_neg h]
namespace Hd
/-- What canonical leaves. -/
def CanR (w : World) (l : List (List UInt8 × List UInt8)) (e : Ending) (w' : World) : Prop :=
  ∃ o, e = .returned (.tuple #[o, errV (if okCs l = true then 0 else 25)]) ∧ Own w' w.heap.size 26 2 o (if okCs l = true then can l else []).length (prs (if okCs l = true then can l else [])) ∧ Below w.heap.size w w'
theorem CanR.bad {w w' : World} {l : List (List UInt8 × List UInt8)} (h : okCs l = false) (hb : Below w.heap.size w w') : CanR w l (.returned (.tuple #[.slice none 0 0, .iface 57 (.int .i64 25)])) w' :=
  ⟨.slice none 0 0, by rw [h]; rfl, by rw [h]; exact own_nil _ _ _ _, hb⟩
theorem CanR.good {w w' : World} {l : List (List UInt8 × List UInt8)} {o : Value} (h : okCs l = true) (ho : Own w' w.heap.size 26 2 o (can l).length (prs (can l))) (hb : Below w.heap.size w w') : CanR w l (.returned (.tuple #[o, .nilIface])) w' :=
  ⟨o, by rw [h]; rfl, by rw [h]; exact ho, hb⟩
end Hd
set_option maxRecDepth 100000 in
set_option maxHeartbeats 16000000 in
theorem canonical_any (l : List (List UInt8 × List UInt8)) (v : Value) (w : World) (hR : Rd w 2 v l.length (prs l)) (hs : ∀ p ∈ l, p.1.length ≤ 1000000 ∧ p.2.length ≤ 1000000) (hm : l.length ≤ 1000) :
    Calls Tryz.prog 26 #[v] w (CanR w l) := by
  obtain ⟨A, cap, rfl, hcap, -, -⟩ := id hR
  replace hR := Lib.hid hR
  replace hs := Lib.hid hs
  go_enter Tryz.func26, Tryz.ntmps26
  go_wp2
  go_loopw [4, 12] (fun o i wr => ∃ k : Nat, i = .int .i64 (k : Int) ∧ k ≤ l.length ∧ Hid (okCs (l.take k) = true) ∧ Hid (Own wr w.heap.size 26 2 o k (prs (can (l.take k)))) ∧ Hid (Below w.heap.size w wr)) (fun _ i _ => l.length - (intOf i).toNat)
  case atStart => exact ⟨0, rfl, by omega, Lib.hid rfl, Lib.hid (own_nil _ _ _ _), Lib.hid (Below.refl _ _)⟩
  case round =>
    obtain ⟨k, rfl, hk, hok, ho, hB⟩ := hrel
    have hBs := hB.out.size
    obtain ⟨Ao, co, rfl, -⟩ := Rd.own ho.out
    by_cases hlt : k < l.length
    · obtain ⟨A', cap', e', -, -, r'⟩ := hR.out.below hB.out
      cases e'
      obtain ⟨b1, o1, rfl, hb1, x1⟩ := r' (by omega)
      have d1 : wr.cell? ⟨b1, o1 + k * 2, none⟩ = some (.string (str l[k].1)) := x1 _ _ (prs_at0 hlt)
      have d2 : wr.cell? ⟨b1, o1 + k * 2 + 1, none⟩ = some (.string (str l[k].2)) := x1 _ _ (prs_at1 hlt)
      have hsz := hs.out l[k] (List.getElem_mem hlt)
      have hokT := okCs_take hlt
      have hokN := okCs_no hlt
      have hct := can_take hlt
      rw [hok.out, Bool.true_and] at hokT
      generalize l[k] = p at *
      obtain ⟨nm, vl⟩ := p
      simp only at d1 d2 hsz hct
      clear x1 r'
      have hokI := okC_iff nm vl
      have hN := fname_any (str nm) (wr.alloc (.cells #[.string (str nm), .string (str vl)] 26)) (by rw [str_size]; omega)
      have hV := fun w => fvalue_any (str vl) w (by rw [str_size]; omega)
      rw [bs_str] at hN
      simp only [bs_str] at hV
      have hA1 := hB.out.alloc hBs (.cells #[.string (str nm), .string (str vl)] 26)
      have hoA := own_below ho.out ((Below.refl _ _).alloc (Nat.le_refl _) (.cells #[.string (str nm), .string (str vl)] 26))
      have hF1 := Blk.new wr 26 #[.string (str nm), .string (str vl)]
      replace hA1 := Lib.hid hA1
      replace hoA := Lib.hid hoA
      replace hF1 := Lib.hid hF1
      replace hct := Lib.hid hct
      replace hokT := Lib.hid hokT
      have hbad : ¬ okC (nm, vl) = true → okCs l = false := fun h => hokN (by simpa using h)
      rw [hokI] at hbad
      replace hbad := Lib.hid hbad
      clear hokN
      by_cases k1 : nmE nm = 0
      · rw [k1, errV_zero] at hN
        by_cases k2 : vlE vl = 0
        · have hV3 := hV
          simp only [k2, errV_zero] at hV3
          by_cases k4 : vlV vl = vl
          · have hof : okC (nm, vl) = true := hokI.2 ⟨k1, k2, k4⟩
            simp only [k4] at hV3
            clear hV
            have hV := Lib.hid hV3
            clear hV3
            have hok2 := Lib.hid (hokT.out.trans hof)
            have qs := str_eq (a := vl) (b := vl) rfl
            have hpr := prs_snoc (can (l.take k)) (nmV nm, vl)
            simp only at hpr
            replace hof := Lib.hid hof
            replace k1 := Lib.hid k1
            replace k2 := Lib.hid k2
            replace k4 := Lib.hid k4
            replace hN := Lib.hid hN
            replace hpr := Lib.hid hpr
            clear hbad hokI
            generalize str (nmV nm) = s1 at *
            generalize str vl = s2 at *
            go_wp2_with fail
            refine hN.out.mono ?_
            rintro e w3 ⟨rfl, hb3⟩
            have hB3 := Lib.hid (Below.next hA1.out hA1.out.size hb3)
            have hF3 := hF1.out.below hb3
            have d3 := hF3.cell 1
            replace hF3 := Lib.hid hF3
            have ho3 := Lib.hid (own_below hoA.out hb3)
            clear hb3
            go_wp2_with fail
            refine (hV.out _).mono ?_
            rintro e w5 ⟨rfl, hb5⟩
            have hB5 := Lib.hid (Below.next hB3.out hB3.out.size hb5)
            have hF5 := hF3.out.below hb5
            have d5 := hF5.cell 1
            have ho5 := Lib.hid (own_below ho3.out hb5)
            have hB5s := hB5.out.size
            clear hb5 d3
            go_wp2_with (at_builtin; go_loud (refine push_pair 28 26 Tryz.underlying28 infoCF _ _ rfl rfl rfl ho5.out rfl rfl rfl (by omega) hB5s ?_); intro v7 w7 ho7 hb7; have hB7 := Lib.hid (hB5.out.trans hb7); replace ho7 := Lib.hid ho7; clear hb7)
            go_roundw
            case rel => exact ⟨k + 1, by go_num, by omega, hok2, Lib.hid (by rw [hct.out, hpr.out]; exact ho7.out), hB7⟩
            case measure => simp only [intOf]; omega
          · have hb9 := Lib.hid (hbad.out (fun h => k4 h.2.2))
            clear hV
            have hV := Lib.hid hV3
            clear hV3
            have qs := str_ne k4
            replace k1 := Lib.hid k1
            replace k2 := Lib.hid k2
            replace k4 := Lib.hid k4
            replace hN := Lib.hid hN
            clear hbad hokI
            generalize str (nmV nm) = s1 at *
            generalize str (vlV vl) = s3 at *
            generalize str vl = s2 at *
            go_wp2_with fail
            refine hN.out.mono ?_
            rintro e w3 ⟨rfl, hb3⟩
            have hB3 := Lib.hid (Below.next hA1.out hA1.out.size hb3)
            have hF3 := hF1.out.below hb3
            have d3 := hF3.cell 1
            replace hF3 := Lib.hid hF3
            clear hb3
            go_wp2_with fail
            refine (hV.out _).mono ?_
            rintro e w5 ⟨rfl, hb5⟩
            have hB5 := Lib.hid (Below.next hB3.out hB3.out.size hb5)
            have hF5 := hF3.out.below hb5
            have d5 := hF5.cell 1
            clear hb5 d3
            go_wp2
            go_ret2
            exact CanR.bad hb9.out hB5.out
        · have hb9 := Lib.hid (hbad.out (fun h => k2 h.2.1))
          have hV3 := hV
          simp only [herr_ne k2] at hV3
          clear hV
          have hV := Lib.hid hV3
          clear hV3
          replace k1 := Lib.hid k1
          replace k2 := Lib.hid k2
          replace hN := Lib.hid hN
          clear hbad hokI
          generalize vlE vl = n2 at *
          generalize str (nmV nm) = s1 at *
          generalize str (vlV vl) = s3 at *
          generalize str vl = s2 at *
          go_wp2_with fail
          refine hN.out.mono ?_
          rintro e w3 ⟨rfl, hb3⟩
          have hB3 := Lib.hid (Below.next hA1.out hA1.out.size hb3)
          have hF3 := hF1.out.below hb3
          have d3 := hF3.cell 1
          replace hF3 := Lib.hid hF3
          clear hb3
          go_wp2_with fail
          refine (hV.out _).mono ?_
          rintro e w5 ⟨rfl, hb5⟩
          have hB5 := Lib.hid (Below.next hB3.out hB3.out.size hb5)
          clear hb5 d3
          go_wp2
          go_ret2
          exact CanR.bad hb9.out hB5.out
      · have hb9 := Lib.hid (hbad.out (fun h => k1 h.1))
        rw [herr_ne k1] at hN
        replace k1 := Lib.hid k1
        replace hN := Lib.hid hN
        clear hbad hokI hV
        generalize nmE nm = n1 at *
        generalize str (nmV nm) = s1 at *
        go_wp2_with fail
        refine hN.out.mono ?_
        rintro e w3 ⟨rfl, hb3⟩
        have hB3 := Lib.hid (Below.next hA1.out hA1.out.size hb3)
        clear hb3
        go_wp2
        go_ret2
        exact CanR.bad hb9.out hB3.out
    · obtain rfl : k = l.length := by omega
      rw [List.take_length] at hok ho
      have hcl : (can l).length = l.length := by unfold can; rw [List.length_map]
      replace hcl := Lib.hid hcl
      go_wp2
      go_ret2
      exact CanR.good hok.out (by rw [hcl.out]; exact ho.out) hB.out
end Go.Proofs.YtjffffpfejmoiaaGreatDoor
/-
  Layer 5: a head's text.
-/
namespace Go.Proofs.YtjffffpfejmoiaaGreatDoor
open Go.RowKit Syn Hd Ck

set_option maxRecDepth 100000 in
set_option maxHeartbeats 8000000 in
theorem written_any (st : List UInt8) (l : List (List UInt8 × List UInt8)) (v : Value) (w : World) (hst : st.length ≤ 100000) (hR : Rd w 2 v l.length (prs l)) (hs : ∀ p ∈ l, p.1.length ≤ 1000000 ∧ p.2.length ≤ 1000000) (hm : l.length ≤ 1000) :
    Calls Tryz.prog 28 #[.string (str st), v] w fun e w' => ∃ o, e = .returned o ∧ OwnM w' w.heap.size o (headB st l) ∧ Below w.heap.size w w' := by
  obtain ⟨A, cap, rfl, hcap, -, -⟩ := id hR
  have hlen := lns_len l 1000000 hs
  have hll := Lib.hid (fun k => lns_le l k)
  have kc1 := Lib.run_convert_string_bytes (P := Tryz.prog) w 9 23 5 (str st ++ ⟨#[13, 10]⟩) Tryz.underlying9 Tryz.underlying23 Tryz.underlying5
  have e1 : str st ++ (⟨#[13, 10]⟩ : ByteArray) = str (st ++ [13, 10]) := by rw [← str_append]; rfl
  have hcv := OwnM.conv w (st ++ [13, 10])
  have hcb := conv_below w (st ++ [13, 10])
  have e2 : (str (st ++ [13, 10])).size = st.length + 2 := by rw [str_size]; simp
  have e3 : (st ++ [13, 10]).length = st.length + 2 := by simp
  have e4 : headB st l = (st ++ [13, 10]) ++ lns l ++ [13, 10] := rfl
  have z0 : (str st).size = st.length := str_size st
  rw [e1, e2] at kc1
  rw [e3] at hcv
  rw [← e1] at kc1
  obtain ⟨L0, hL0⟩ : ∃ L, st ++ [13, 10] = L := ⟨_, rfl⟩
  rw [hL0] at hcv hcb e4 e3
  rw [e1, hL0] at kc1
  rw [hL0] at e1
  obtain ⟨w1, hw1⟩ : ∃ w1, Lib.bytesWorld w 5 (str L0) = w1 := ⟨_, rfl⟩
  rw [hw1] at kc1 hcv hcb
  rw [← e1] at kc1
  obtain ⟨c0, hc0⟩ : ∃ c, grownCap w (st.length + 2) 0 5 = c := ⟨_, rfl⟩
  rw [hc0] at kc1 hcv
  have hRR := Lib.hid (fun w' (hb : Below w.heap.size w w') => hR.below hb)
  clear hR
  replace hs := Lib.hid hs
  replace hcv := Lib.hid hcv
  replace hcb := Lib.hid hcb
  replace e1 := Lib.hid e1
  replace e2 := Lib.hid e2
  have hl0 : L0.length ≤ 100002 := by omega
  replace e3 := Lib.hid e3
  replace e4 := Lib.hid e4
  replace hL0 := Lib.hid hL0
  replace hw1 := Lib.hid hw1
  replace hc0 := Lib.hid hc0
  generalize str st = sst at *
  go_enter Tryz.func28, Tryz.ntmps28
  go_wp2
  go_loopw [5, 13] (fun o i wr => ∃ k : Nat, i = .int .i64 (k : Int) ∧ k ≤ l.length ∧ Hid (OwnM wr w.heap.size o (L0 ++ lns (l.take k))) ∧ Hid (Below w.heap.size w wr)) (fun _ i _ => l.length - (intOf i).toNat)
  case atStart => exact ⟨0, rfl, by omega, Lib.hid (by rw [show lns (l.take 0) = [] from rfl, List.append_nil]; exact hcv.out), hcb⟩
  case round =>
    obtain ⟨k, rfl, hk, ho, hB⟩ := hrel
    have hBs := hB.out.size
    have hlk := hll.out k
    have hLk : (L0 ++ lns (l.take k)).length ≤ 3000000000 := by rw [List.length_append]; omega
    by_cases hlt : k < l.length
    · obtain ⟨A', cap', e', -, -, r'⟩ := hRR.out wr hB.out
      cases e'
      obtain ⟨b1, o1, rfl, hb1, x1⟩ := r' (by omega)
      have d1 : wr.cell? ⟨b1, o1 + k * 2, none⟩ = some (.string (str l[k].1)) := x1 _ _ (prs_at0 hlt)
      have d2 : wr.cell? ⟨b1, o1 + k * 2 + 1, none⟩ = some (.string (str l[k].2)) := x1 _ _ (prs_at1 hlt)
      have hsz := hs.out l[k] (List.getElem_mem hlt)
      have hlt2 := lns_take hlt
      have hln := ln_len l[k]
      generalize l[k] = p at *
      obtain ⟨nm, vl⟩ := p
      simp only at d1 d2 hsz hln
      obtain ⟨Lk, hLk2⟩ : ∃ L, L0 ++ lns (l.take k) = L := ⟨_, rfl⟩
      rw [hLk2] at ho hLk
      have hnx : L0 ++ lns (l.take (k + 1)) = Lk ++ ln (nm, vl) := by rw [hlt2, ← hLk2, List.append_assoc]
      have z1 : (str nm).size ≤ 1000000 := by rw [str_size]; exact hsz.1
      have z2 : (str vl).size ≤ 1000000 := by rw [str_size]; exact hsz.2
      have es : Hid (str nm ++ (⟨#[58, 32]⟩ : ByteArray) ++ str vl ++ (⟨#[13, 10]⟩ : ByteArray) = str (ln (nm, vl))) := Lib.hid (by
        rw [show (⟨#[58, 32]⟩ : ByteArray) = str [58, 32] from rfl, show (⟨#[13, 10]⟩ : ByteArray) = str [13, 10] from rfl, str_append, str_append, str_append]
        rfl)
      have hoA := ho.out.below ((Below.refl _ _).alloc (Nat.le_refl _) (.cells #[.string (str nm), .string (str vl)] 26))
      have hA1 := hB.out.alloc hBs (.cells #[.string (str nm), .string (str vl)] 26)
      have hA1s := hA1.size
      obtain ⟨Ao, co, rfl, -⟩ := id ho.out.rd
      replace hoA := Lib.hid hoA
      replace hA1 := Lib.hid hA1
      replace hlt2 := Lib.hid hlt2
      replace hln := hln
      replace hnx := Lib.hid hnx
      replace hLk2 := Lib.hid hLk2
      have hlnb : (ln (nm, vl)).length ≤ 2000004 := by omega
      replace hln := Lib.hid hln
      clear x1 r'
      generalize str nm = s1 at *
      generalize str vl = s2 at *
      go_wp2_with (at_builtin; go_loud (refine step_pushSM _ _ rfl rfl (ln (nm, vl)) hoA.out rfl rfl es.out (by omega) hA1s ?_); intro v7 w7 ho7 hb7; have hB7 := Lib.hid (hA1.out.trans hb7); replace ho7 := Lib.hid ho7; clear hb7)
      go_roundw
      case rel => exact ⟨k + 1, by go_num, by omega, Lib.hid (by rw [hnx.out]; exact ho7.out), hB7⟩
      case measure => simp only [intOf]; omega
    · obtain rfl : k = l.length := by omega
      rw [List.take_length] at ho hLk
      obtain ⟨Lk, hLk2⟩ : ∃ L, L0 ++ lns l = L := ⟨_, rfl⟩
      rw [hLk2] at ho hLk
      obtain ⟨Ao, co, rfl, -⟩ := id ho.out.rd
      have hfin : headB st l = Lk ++ [13, 10] := by rw [e4.out, ← hLk2]
      replace hfin := Lib.hid hfin
      replace hLk2 := Lib.hid hLk2
      go_wp2_with (at_builtin; go_loud (refine step_pushSM _ _ rfl rfl [13, 10] ho.out rfl rfl rfl (by show _ + 2 ≤ _; omega) hBs ?_); intro v7 w7 ho7 hb7; have hB7 := Lib.hid (hB.out.trans hb7); replace ho7 := Lib.hid ho7; clear hb7)
      go_ret
      exact ⟨_, rfl, by rw [hfin.out]; exact ho7.out, hB7.out⟩
end Go.Proofs.YtjffffpfejmoiaaGreatDoor
/-
  Layer 5: the document's body.
-/
namespace Go.Proofs.YtjffffpfejmoiaaGreatDoor
open Go.RowKit Syn Hd Ck

namespace Hd
/-- The name that the document's line has. -/
def nmR (x : List UInt8) : List UInt8 := if nmE x = 0 then nmV x else x
def lnR (p : List UInt8 × List UInt8) : List UInt8 := ln (nmR p.1, p.2)
def lnsR (l : List (List UInt8 × List UInt8)) : List UInt8 := l.flatMap lnR
theorem nmR_len (x : List UInt8) : (nmR x).length = x.length := by
  unfold nmR
  split
  · unfold nmV; rw [if_pos (by assumption), lower_length]
  · rfl
theorem lnR_len (p : List UInt8 × List UInt8) : (lnR p).length = p.1.length + p.2.length + 4 := by
  unfold lnR; rw [ln_len, nmR_len]
theorem lnsR_take {l : List (List UInt8 × List UInt8)} {k : Nat} (h : k < l.length) : lnsR (l.take (k + 1)) = lnsR (l.take k) ++ lnR l[k] := by
  unfold lnsR; rw [List.take_add_one, List.getElem?_eq_getElem h, List.flatMap_append]; simp
theorem lnsR_len : ∀ l : List (List UInt8 × List UInt8), (lnsR l).length = (lns l).length
  | [] => rfl
  | p :: l => by
    have := lnsR_len l
    unfold lnsR lns at this ⊢
    rw [List.flatMap_cons, List.flatMap_cons, List.length_append, List.length_append, this, lnR_len, ln_len]
theorem lnsR_ok : ∀ l : List (List UInt8 × List UInt8), okCs l = true → lnsR l = lns (can l)
  | [], _ => rfl
  | p :: l, h => by
    unfold okCs at h
    rw [List.all_cons, Bool.and_eq_true] at h
    have := lnsR_ok l h.2
    unfold lnsR lns can at this ⊢
    rw [List.map_cons, List.flatMap_cons, List.flatMap_cons, this]
    congr 1
    unfold lnR nmR
    rw [if_pos ((okC_iff p.1 p.2).1 h.1).1]
end Hd
end Go.Proofs.YtjffffpfejmoiaaGreatDoor
/-
  Layer 5: WriteResponse.
-/
namespace Go.Proofs.YtjffffpfejmoiaaGreatDoor
open Go.RowKit Syn Hd Ck

namespace Hd
def httpV : List UInt8 := [72, 84, 84, 80, 47, 49, 46, 49, 32]
/-- The error of a response that is written. -/
def wrE (s : Int) (l : List (List UInt8 × List UInt8)) : Int := if largeB (13 + (rsn s).length) l = true then 5 else if s < 100 ∨ 599 < s then 2 else if okCs l = true then 0 else 25
def startB (s : Int) : List UInt8 := httpV ++ dg3 s.toNat ++ [32] ++ rsn s
/-- Its text. -/
def wrB (s : Int) (l : List (List UInt8 × List UInt8)) : List UInt8 := if wrE s l = 0 then headB (startB s) (can l) else []
theorem itoa_three {n : Nat} (h : 100 ≤ n) (h2 : n < 1000) : Lib.itoa (n : Int) = dg3 n := by
  rw [Lib.itoa_nonneg, Lib.decDigits, dif_neg (by omega), Lib.decDigits_two (by omega) (by omega)]
  unfold dg3
  rw [show n / 10 / 10 = n / 100 by omega]
  rfl
def WrR (w : World) (s : Int) (l : List (List UInt8 × List UInt8)) (e : Ending) (w' : World) : Prop :=
  ∃ o, e = .returned (.tuple #[o, errV (wrE s l)]) ∧ OwnM w' w.heap.size o (wrB s l) ∧ Below w.heap.size w w'
theorem WrR.bad {w w' : World} {s : Int} {l : List (List UInt8 × List UInt8)} {n : Int} (h : wrE s l = n) (h0 : n ≠ 0) (hb : Below w.heap.size w w') : WrR w s l (.returned (.tuple #[.slice none 0 0, .iface 57 (.int .i64 n)])) w' :=
  ⟨.slice none 0 0, by rw [h, herr_ne h0], by unfold wrB; rw [h, if_neg h0]; exact .inl ⟨rfl, rfl⟩, hb⟩
theorem WrR.good {w w' : World} {s : Int} {l : List (List UInt8 × List UInt8)} {o : Value} (h : wrE s l = 0) (ho : OwnM w' w.heap.size o (headB (startB s) (can l))) (hb : Below w.heap.size w w') : WrR w s l (.returned (.tuple #[o, .nilIface])) w' :=
  ⟨o, by rw [h]; rfl, by unfold wrB; rw [if_pos h]; exact ho, hb⟩
theorem CanR.no {w w' : World} {l : List (List UInt8 × List UInt8)} {e : Ending} (h : CanR w l e w') (c : ¬ okCs l = true) : ∃ o, e = .returned (.tuple #[o, .iface 57 (.int .i64 25)]) ∧ Below w.heap.size w w' := by
  obtain ⟨o, rfl, -, hb⟩ := h
  exact ⟨o, by rw [if_neg c]; rfl, hb⟩
theorem CanR.yes {w w' : World} {l : List (List UInt8 × List UInt8)} {e : Ending} (h : CanR w l e w') (c : okCs l = true) : ∃ o, e = .returned (.tuple #[o, .nilIface]) ∧ Own w' w.heap.size 26 2 o (can l).length (prs (can l)) ∧ Below w.heap.size w w' := by
  obtain ⟨o, rfl, ho, hb⟩ := h
  rw [if_pos c] at ho
  exact ⟨o, by rw [if_pos c]; rfl, ho, hb⟩
theorem nmV_le (x : List UInt8) : (nmV x).length ≤ x.length := by
  unfold nmV
  split
  · rw [lower_length]; exact Nat.le_refl _
  · exact Nat.zero_le _
theorem can_size {l : List (List UInt8 × List UInt8)} {M : Nat} (h : ∀ p ∈ l, p.1.length ≤ M ∧ p.2.length ≤ M) : ∀ p ∈ can l, p.1.length ≤ M ∧ p.2.length ≤ M := by
  intro p hp
  obtain ⟨q, hq, rfl⟩ := List.mem_map.1 hp
  exact ⟨Nat.le_trans (nmV_le q.1) (h q hq).1, (h q hq).2⟩
end Hd
abbrev Tab10 (w : World) : Prop := Lib.TabIs Tryz.prog w "internal/strconv.uint64pow10" .u64 Lib.pow10Tab
theorem Tab10.below {w w' : World} (h : Tab10 w) (hb : Below w.heap.size w w') : Tab10 w' := by
  unfold Tab10 Lib.TabIs at h ⊢
  unfold World.var? at h ⊢
  cases hg : Tryz.prog.globalNamed "internal/strconv.uint64pow10" with
  | none => simp [hg] at h
  | some g =>
    simp only [hg, Option.bind_some] at h ⊢
    have hlt : g < w.heap.size := by
      rcases Nat.lt_or_ge g w.heap.size with h' | h'
      · exact h'
      · simp [Array.getElem?_eq_none h'] at h
    rw [hb.block g hlt]
    exact h
theorem itoa_any (n : Nat) (h : 100 ≤ n) (h2 : n < 1000) (w : World) (hT : Tab10 w) : Calls Tryz.prog 64 #[.int .i64 (n : Int)] w fun e w' => e = .returned (.string (str (dg3 n))) ∧ Below w.heap.size w w' := by
  refine (Any.strconv_Itoa Tryz.laysM171 (n : Int) (by omega) (by omega) w hT).mono ?_
  rintro e w' ⟨rfl, k, os, rfl⟩
  exact ⟨by rw [itoa_three h h2]; rfl, Lib.below_grow w.heap.size w (Nat.le_refl _) k os⟩
set_option maxRecDepth 100000 in
set_option maxHeartbeats 16000000 in
theorem wresp_any (s : Int) (hs1 : -9223372036854775808 ≤ s) (hs2 : s ≤ 9223372036854775807) (l : List (List UInt8 × List UInt8)) (v : Value) (w : World) (hR : Rd w 2 v l.length (prs l)) (hs : ∀ p ∈ l, p.1.length ≤ 1000000 ∧ p.2.length ≤ 1000000) (hm : l.length ≤ 1000) (hT : Tab10 w) :
    Calls Tryz.prog 36 #[.agg #[.int .i64 s, v]] w (WrR w s l) := by
  obtain ⟨A, cap, rfl, hcap, -, -⟩ := id hR
  have hK := Blk.new w 75 #[.int .i64 s, .slice A l.length cap]
  have hb0 := (Below.refl w.heap.size w).alloc (Nat.le_refl _) (.cells #[.int .i64 s, .slice A l.length cap] 75)
  have hRe := fun w' => reason_any s hs1 hs2 w'
  have hrl := rsn_len s
  have hLa := fun w' (hb : Below w.heap.size w w') => hlarge_any (13 + (rsn s).length) l (.slice A l.length cap) w' (by omega) (hR.below hb) hs hm
  have hCa := fun w' (hb : Below w.heap.size w w') => canonical_any l (.slice A l.length cap) w' (hR.below hb) hs hm
  have hE : wrE s l = if largeB (13 + (rsn s).length) l = true then 5 else if s < 100 ∨ 599 < s then 2 else if okCs l = true then 0 else 25 := rfl
  have zr : (str (rsn s)).size = (rsn s).length := str_size _
  obtain ⟨big, hbig⟩ : ∃ b, largeB (13 + (rsn s).length) l = b := ⟨_, rfl⟩
  rw [hbig] at hE
  simp only [hbig] at hLa
  obtain ⟨rl, hrle⟩ : ∃ r, (rsn s).length = r := ⟨_, rfl⟩
  rw [hrle] at zr hrl
  simp only [hrle] at hLa
  rw [show ((13 + rl : Nat) : Int) = 13 + (rl : Int) by omega] at hLa
  replace hbig := Lib.hid hbig
  replace hrle := Lib.hid hrle
  replace hR := Lib.hid hR
  replace hRe := Lib.hid hRe
  replace hLa := Lib.hid hLa
  replace hCa := Lib.hid hCa
  replace hK := Lib.hid hK
  replace hT := Lib.hid hT
  have hc0 := hK.out.cell 0
  have hc1 := hK.out.cell 1
  replace hb0 := Lib.hid hb0
  cases big with
  | true =>
    replace hE := Lib.hid (hE.trans (if_pos rfl))
    generalize str (rsn s) = sr at *
    go_enter Tryz.func36, Tryz.ntmps36
    go_wp2_with fail
    refine (hRe.out _).mono ?_
    rintro e w1 ⟨rfl, rfl⟩
    go_wp2_with fail
    refine (hLa.out _ hb0.out).mono ?_
    rintro e w2 ⟨rfl, hb2⟩
    have hB2 := Lib.hid (Below.next hb0.out hb0.out.size hb2)
    clear hb2
    go_wp2
    go_ret2
    exact WrR.bad hE.out (by decide) hB2.out
  | false =>
    rw [if_neg (by simp)] at hE
    by_cases c1 : s < 100
    · rw [if_pos (.inl c1)] at hE
      replace hE := Lib.hid hE
      generalize str (rsn s) = sr at *
      go_enter Tryz.func36, Tryz.ntmps36
      go_wp2_with fail
      refine (hRe.out _).mono ?_
      rintro e w1 ⟨rfl, rfl⟩
      go_wp2_with fail
      refine (hLa.out _ hb0.out).mono ?_
      rintro e w2 ⟨rfl, hb2⟩
      have hB2 := Lib.hid (Below.next hb0.out hb0.out.size hb2)
      have hc2 := (hK.out.below hb2).cell 0
      clear hb2
      go_wp2
      go_ret2
      exact WrR.bad hE.out (by decide) hB2.out
    · by_cases c2 : 599 < s
      · rw [if_pos (.inr c2)] at hE
        replace hE := Lib.hid hE
        generalize str (rsn s) = sr at *
        go_enter Tryz.func36, Tryz.ntmps36
        go_wp2_with fail
        refine (hRe.out _).mono ?_
        rintro e w1 ⟨rfl, rfl⟩
        go_wp2_with fail
        refine (hLa.out _ hb0.out).mono ?_
        rintro e w2 ⟨rfl, hb2⟩
        have hB2 := Lib.hid (Below.next hb0.out hb0.out.size hb2)
        have hc2 := (hK.out.below hb2).cell 0
        clear hb2
        go_wp2
        go_ret2
        exact WrR.bad hE.out (by decide) hB2.out
      · rw [if_neg (by omega)] at hE
        by_cases c3 : okCs l = true
        · rw [if_pos c3] at hE
          obtain ⟨n, rfl, n1, n2⟩ : ∃ n : Nat, s = (n : Int) ∧ 100 ≤ n ∧ n ≤ 599 := ⟨s.toNat, by omega, by omega, by omega⟩
          have hI := fun w' (hb : Below w.heap.size w w') => itoa_any n n1 (by omega) w' (hT.out.below hb)
          have hsl : (startB (n : Int)).length = 13 + rl := by
            unfold startB
            rw [List.length_append, List.length_append, List.length_append, hrle.out]
            rfl
          have hW := fun (o : Value) (w' : World) (ho : Rd w' 2 o (can l).length (prs (can l))) => written_any (startB (n : Int)) (can l) o w' (by omega) ho (can_size hs) (by unfold can; rw [List.length_map]; exact hm)
          have e0 : str (startB (n : Int)) = ((⟨#[72, 84, 84, 80, 47, 49, 46, 49, 32]⟩ ++ str (dg3 n)) ++ ⟨#[32]⟩) ++ str (rsn (n : Int)) := by
            unfold startB
            rw [← str_append, ← str_append, ← str_append]
            rfl
          have q1 : ((⟨#[72, 84, 84, 80, 47, 49, 46, 49, 32]⟩ : ByteArray) ++ str (dg3 n)).size = 12 := by rw [ByteArray.size_append]; rfl
          have q2 : (((⟨#[72, 84, 84, 80, 47, 49, 46, 49, 32]⟩ : ByteArray) ++ str (dg3 n)) ++ ⟨#[32]⟩).size = 13 := by rw [ByteArray.size_append, q1]; rfl
          have q3 : (str (dg3 n)).size = 3 := rfl
          rw [e0] at hW
          replace hE := Lib.hid hE
          replace c3 := Lib.hid c3
          replace hI := Lib.hid hI
          replace hW := Lib.hid hW
          replace hsl := Lib.hid hsl
          replace e0 := Lib.hid e0
          generalize str (rsn (n : Int)) = sr at *
          generalize str (dg3 n) = sd at *
          go_enter Tryz.func36, Tryz.ntmps36
          go_wp2_with fail
          refine (hRe.out _).mono ?_
          rintro e w1 ⟨rfl, rfl⟩
          go_wp2_with fail
          refine (hLa.out _ hb0.out).mono ?_
          rintro e w2 ⟨rfl, hb2⟩
          have hB2 := Lib.hid (Below.next hb0.out hb0.out.size hb2)
          have hK2 := hK.out.below hb2
          have hc2 := hK2.cell 0
          have hc3 := hK2.cell 1
          replace hK2 := Lib.hid hK2
          clear hb2
          go_wp2_with fail
          refine (hCa.out _ hB2.out).mono ?_
          rintro e w3 h3
          obtain ⟨o3, rfl, ho3, hb3⟩ := CanR.yes h3 c3.out
          have hB3 := Lib.hid (Below.next hB2.out hB2.out.size hb3)
          have hc5 := (hK2.out.below hb3).cell 0
          replace ho3 := Lib.hid ho3
          clear hb3 h3 hc2 hc3
          go_wp2_with fail
          refine (hI.out _ hB3.out).mono ?_
          rintro e w4 ⟨rfl, hb4⟩
          have hB4 := Lib.hid (Below.next hB3.out hB3.out.size hb4)
          have ho4 := Lib.hid (own_below ho3.out hb4)
          clear hb4 hc5
          go_wp2_with fail
          refine (hW.out _ _ (Rd.own ho4.out)).mono ?_
          rintro e w5 ⟨o5, rfl, ho5, hb5⟩
          have hB5 := Lib.hid (Below.next hB4.out hB4.out.size hb5)
          have ho6 := Lib.hid (ho5.base hB4.out.size)
          clear hb5 ho5
          go_wp2
          go_ret2
          exact WrR.good hE.out ho6.out hB5.out
        · rw [if_neg c3] at hE
          replace hE := Lib.hid hE
          replace c3 := Lib.hid c3
          generalize str (rsn s) = sr at *
          go_enter Tryz.func36, Tryz.ntmps36
          go_wp2_with fail
          refine (hRe.out _).mono ?_
          rintro e w1 ⟨rfl, rfl⟩
          go_wp2_with fail
          refine (hLa.out _ hb0.out).mono ?_
          rintro e w2 ⟨rfl, hb2⟩
          have hB2 := Lib.hid (Below.next hb0.out hb0.out.size hb2)
          have hK2 := hK.out.below hb2
          have hc2 := hK2.cell 0
          have hc3 := hK2.cell 1
          clear hb2
          go_wp2_with fail
          refine (hCa.out _ hB2.out).mono ?_
          rintro e w3 h3
          obtain ⟨o3, rfl, hb3⟩ := CanR.no h3 c3.out
          have hB3 := Lib.hid (Below.next hB2.out hB2.out.size hb3)
          clear hb3 h3
          go_wp2
          go_ret2
          exact WrR.bad hE.out (by decide) hB3.out
end Go.Proofs.YtjffffpfejmoiaaGreatDoor
/-
  Requests and responses are turned into the program's.
-/
namespace Go.Proofs.YtjffffpfejmoiaaGreatDoor
open Go.RowKit Syn

theorem own_far {w : World} {B sz n : Nat} {e : TypeId} {v : Value} {xs : List Value} (h : Own w B e sz v n xs) {p : Addr} (hp : p.block < B) (u : Value) : Own (w.setCell p u) B e sz v n xs := by
  obtain ⟨hl, h⟩ := h
  refine ⟨hl, ?_⟩
  rcases h with h | ⟨g, cap, cur, e1, h1, hg, h2⟩
  · exact .inl h
  · refine .inr ⟨g, cap, cur, e1, h1, ?_, h2⟩
    rw [Below.heap_setCell w p u g (by omega)]; exact hg
/-- A struct that lies in its own block, handed back alone. -/
theorem ret_one {P : Program} {fn : Func} {p : Tmp} {ty t : TypeId} {R : Ending → World → Prop} {a : Act} {w : World} {g : Nat} {cs : Array Value} {d : TypeDesc} (h : fn.results = #[.cell p ty])
    (hd0 : a.defers = []) (hp : a.tmps.getD p undef = .pointer (some ⟨g, 0, none⟩)) (hb : Blk w g t cs) (hu : P.underlying ty = some d) (hd : (match d with | .struct _ | .array _ _ => true | _ => false) = true)
    (hi : (P.info? ty).map (·.size) = some cs.size) (hR : R (.returned (.agg cs)) w) : bodyPost P fn R .ret a w :=
  bodyPost_ret (results_cell_row h _ w g t cs (0, 0) d hp hb hu hd hi) hd0 hR
theorem Blk.three {w : World} {g : Nat} {t : TypeId} {x y z : Value} (h : Blk w g t #[x, y, z]) (a b c : Value) : Blk (((w.setCell ⟨g, 0, none⟩ a).setCell ⟨g, 1, none⟩ b).setCell ⟨g, 2, none⟩ c) g t #[a, b, c] := ((h.set_ 0 a).set_ 1 b).set_ 2 c
end Go.Proofs.YtjffffpfejmoiaaGreatDoor
