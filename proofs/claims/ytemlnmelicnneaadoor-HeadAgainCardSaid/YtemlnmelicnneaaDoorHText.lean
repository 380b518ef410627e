/-
  Layer 5: a head that is written is read back: the plain law of its lines.
-/
import Derived.Test.YtemlnmelicnneaaDoorHRdResp
namespace Go.Proofs.YtemlnmelicnneaaDoor
open Go.RowKit Syn Hd Ck

namespace Hd
/-- A line without CR, LF and byte 0. -/
def clr (l : List UInt8) : Prop := ∀ c ∈ l, c.toNat ≠ 0 ∧ c.toNat ≠ 10 ∧ c.toNat ≠ 13
def txt (Ls : List (List UInt8)) : List UInt8 := Ls.flatMap (· ++ [13, 10])
def jn : List (List UInt8) → List UInt8
  | [] => []
  | [l] => l
  | l :: m :: r => l ++ 13 :: 10 :: jn (m :: r)
theorem clr_ne {l : List UInt8} (h : clr l) : ∀ c ∈ l, c ≠ 13 := fun c hc e => (h c hc).2.2 (by rw [e]; rfl)
theorem txt_cons (l : List UInt8) (r : List (List UInt8)) : txt (l :: r) = l ++ 13 :: 10 :: txt r := by
  unfold txt; rw [List.flatMap_cons, List.append_assoc]; rfl
theorem txt_jn : ∀ {Ls : List (List UInt8)}, Ls ≠ [] → txt Ls = jn Ls ++ [13, 10]
  | [], h => absurd rfl h
  | [l], _ => by rw [txt_cons]; rfl
  | l :: m :: r, _ => by rw [txt_cons, txt_jn (by simp), jn]; simp
theorem index_cons (c : UInt8) (l sub : List UInt8) : Lib.index (c :: l) sub = if sub.isPrefixOf (c :: l) = true then 0 else if Lib.index l sub = -1 then -1 else Lib.index l sub + 1 := by
  rw [Lib.index]
  by_cases h : sub.isPrefixOf (c :: l) = true
  · rw [if_pos h, if_pos h]
  · rw [if_neg h, if_neg h]
    by_cases h2 : Lib.index l sub = -1
    · rw [if_pos (by rw [h2]; rfl), if_pos h2]
    · rw [if_neg (by rw [beq_iff_eq]; exact h2), if_neg h2]
/-- What stands before the first CR is passed over. -/
theorem index_skip {sub t : List UInt8} {n : Nat} (ht : Lib.index t (13 :: sub) = (n : Int)) : ∀ (l : List UInt8), (∀ c ∈ l, c ≠ 13) → Lib.index (l ++ t) (13 :: sub) = ((l.length + n : Nat) : Int)
  | [], _ => by rw [List.nil_append, ht, List.length_nil, Nat.zero_add]
  | c :: l, h => by
    have ih := index_skip ht l (fun x hx => h x (by simp [hx]))
    have hc := h c (by simp)
    rw [List.cons_append, index_cons, if_neg (by rw [List.isPrefixOf_cons_cons]; simp; intro e; exact absurd e.symm hc), ih, if_neg (by omega), List.length_cons]
    omega
theorem index_skip2 {t : List UInt8} {n : Nat} (ht : Lib.index t [13, 10, 13, 10] = (n : Int)) (hp : ([13, 10] : List UInt8).isPrefixOf t = false) : Lib.index (13 :: 10 :: t) [13, 10, 13, 10] = ((2 + n : Nat) : Int) := by
  have h1 : ([13, 10, 13, 10] : List UInt8).isPrefixOf (13 :: 10 :: t) = false := by
    rw [List.isPrefixOf_cons_cons, List.isPrefixOf_cons_cons]; simpa using hp
  have h2 : ([13, 10, 13, 10] : List UInt8).isPrefixOf (10 :: t) = false := by
    rw [List.isPrefixOf_cons_cons]; rfl
  have h3 : Lib.index (10 :: t) [13, 10, 13, 10] = (n : Int) + 1 := by rw [index_cons, if_neg (by rw [h2]; decide), ht, if_neg (by omega)]
  rw [index_cons, if_neg (by rw [h1]; decide), h3, if_neg (by omega)]
  omega
theorem nopre {l t : List UInt8} (hl : l ≠ []) (h : ∀ c ∈ l, c ≠ 13) : ([13, 10] : List UInt8).isPrefixOf (l ++ t) = false := by
  cases l with
  | nil => exact absurd rfl hl
  | cons c l =>
    rw [List.cons_append, List.isPrefixOf_cons_cons]
    have := h c (by simp)
    simp; intro e; exact absurd e.symm this
/-- Where the lines end. -/
theorem index_txt (rest : List UInt8) : ∀ (l : List UInt8) (r : List (List UInt8)), (∀ x ∈ l :: r, x ≠ [] ∧ clr x) → ∃ n : Nat, Lib.index (txt (l :: r) ++ 13 :: 10 :: rest) [13, 10, 13, 10] = (n : Int) ∧ n + 2 = (txt (l :: r)).length
  | l, [], h => by
    have hc := clr_ne (h l (by simp)).2
    have h0 : Lib.index (13 :: 10 :: 13 :: 10 :: rest) [13, 10, 13, 10] = ((0 : Nat) : Int) := by
      rw [index_cons, if_pos (by simp)]; rfl
    refine ⟨l.length + 0, ?_, ?_⟩
    · rw [txt_cons, List.append_assoc]
      exact index_skip h0 l hc
    · rw [txt_cons, List.length_append]; rfl
  | l, m :: r, h => by
    obtain ⟨n, h1, h2⟩ := index_txt rest m r (fun x hx => h x (by simp at hx ⊢; right; exact hx))
    have hm := h m (by simp)
    have h3 := index_skip2 h1 (by
      rw [txt_cons, List.append_assoc]; exact nopre hm.1 (clr_ne hm.2))
    refine ⟨l.length + (2 + n), ?_, ?_⟩
    · rw [txt_cons l, List.append_assoc]
      exact index_skip h3 l (clr_ne (h l (by simp)).2)
    · rw [txt_cons l, List.length_append, List.length_cons, List.length_cons, ← h2]; omega
theorem endF_txt {l : List UInt8} {r : List (List UInt8)} (rest : List UInt8) (h : ∀ x ∈ l :: r, x ≠ [] ∧ clr x) : endF (txt (l :: r) ++ 13 :: 10 :: rest) = (((txt (l :: r)).length + 2 : Nat) : Int) := by
  obtain ⟨n, h1, h2⟩ := index_txt rest l r h
  unfold endF Lib.hasPrefix
  have hl := h l (by simp)
  rw [if_neg (by rw [txt_cons, List.append_assoc, nopre hl.1 (clr_ne hl.2)]; decide), h1, if_neg (by omega)]
  omega
theorem index_none13 : ∀ (l : List UInt8), (∀ c ∈ l, c ≠ 13) → Lib.index l [13, 10] = -1
  | [], _ => rfl
  | c :: l, h => by
    have ih := index_none13 l (fun x hx => h x (by simp [hx]))
    have hc := h c (by simp)
    rw [index_cons, if_neg (by rw [List.isPrefixOf_cons_cons]; simp; intro e; exact absurd e.symm hc), if_pos ih]
theorem index_jn (l t : List UInt8) (h : ∀ c ∈ l, c ≠ 13) : Lib.index (l ++ 13 :: 10 :: t) [13, 10] = (l.length : Int) := by
  have h0 : Lib.index (13 :: 10 :: t) [13, 10] = ((0 : Nat) : Int) := by rw [index_cons, if_pos (by simp)]; rfl
  have := index_skip h0 l h
  rw [Nat.add_zero] at this; exact this
theorem splitK_jn : ∀ (r : List (List UInt8)) (l : List UInt8) (k : Nat), (∀ x ∈ l :: r, clr x) → r.length ≤ k → Lib.splitK [13, 10] 0 k (jn (l :: r)) = l :: r
  | [], l, k, h, _ => by
    show Lib.splitK [13, 10] 0 k l = [l]
    cases k with
    | zero => rfl
    | succ k => rw [Lib.splitK, if_pos (by rw [index_none13 l (clr_ne (h l (by simp)))]; rfl)]
  | m :: r, l, 0, _, hk => by simp at hk
  | m :: r, l, k + 1, h, hk => by
    have hl := clr_ne (h l (by simp))
    have ih := splitK_jn r m k (fun x hx => h x (by simp at hx ⊢; right; exact hx)) (by simpa using hk)
    rw [jn, Lib.splitK, index_jn l _ hl, if_neg (by rw [beq_iff_eq]; omega)]
    have e1 : (l ++ 13 :: 10 :: jn (m :: r)).take (((l.length : Int)).toNat + 0) = l := by
      rw [show ((l.length : Int)).toNat + 0 = l.length from rfl, List.take_left']; rfl
    have e2 : (l ++ 13 :: 10 :: jn (m :: r)).drop (((l.length : Int)).toNat + ([13, 10] : List UInt8).length) = jn (m :: r) := by
      rw [show ((l.length : Int)).toNat + ([13, 10] : List UInt8).length = l.length + 2 from rfl, ← List.drop_drop, List.drop_left']
      rfl
      rfl
    rw [e1, e2, ih]
theorem count_jn : ∀ (r : List (List UInt8)) (l : List UInt8), (∀ x ∈ l :: r, clr x) → Lib.count (jn (l :: r)) [13, 10] = r.length
  | [], l, h => Lib.count_miss (index_none13 l (clr_ne (h l (by simp))))
  | m :: r, l, h => by
    have hl := clr_ne (h l (by simp))
    have ih := count_jn r m (fun x hx => h x (by simp at hx ⊢; right; exact hx))
    rw [jn, Lib.count_hit (i := l.length) (by simp) (index_jn l _ hl)]
    rw [show l.length + ([13, 10] : List UInt8).length = l.length + 2 from rfl, ← List.drop_drop, List.drop_left' rfl]
    show 1 + Lib.count (jn (m :: r)) [13, 10] = _
    rw [ih, List.length_cons]; omega
theorem spl_jn {l : List UInt8} {r : List (List UInt8)} (h : ∀ x ∈ l :: r, clr x) : spl (jn (l :: r)) = l :: r := by
  unfold spl; rw [count_jn r l h]; exact splitK_jn r l _ h (Nat.le_refl _)
theorem strR_line : ∀ (l t : List UInt8), clr l → strR false (l ++ t) = strR false t
  | [], _, _ => rfl
  | c :: l, t, h => by
    have hc := h c (by simp)
    rw [List.cons_append, strR_go hc.1 hc.2.1, decide_eq_false hc.2.2, strR_line l t (fun x hx => h x (by simp [hx]))]
theorem strR_end (t : List UInt8) : strR false (13 :: 10 :: t) = strR false t := by
  rw [strR_go (by decide) (by decide), show decide ((13 : UInt8).toNat = 13) = true from rfl, strR_lf (by decide)]; rfl
theorem strB_txt : ∀ (Ls : List (List UInt8)) (t : List UInt8), (∀ x ∈ Ls, clr x) → strR false (txt Ls ++ t) = strR false t
  | [], _, _ => rfl
  | l :: r, t, h => by
    rw [txt_cons, List.append_assoc, strR_line l _ (h l (by simp))]
    show strR false (13 :: 10 :: (txt r ++ t)) = _
    rw [strR_end, strB_txt r t (fun x hx => h x (by simp [hx]))]
/-- The lines of a text whose lines are written. -/
theorem lines_txt {l : List UInt8} {r : List (List UInt8)} (rest : List UInt8) (h : ∀ x ∈ l :: r, x ≠ [] ∧ clr x) (h8 : (txt (l :: r)).length + 2 ≤ 8192) (h64 : r.length ≤ 64) :
    lnE (txt (l :: r) ++ 13 :: 10 :: rest) = 0 ∧ lnL (txt (l :: r) ++ 13 :: 10 :: rest) = l :: r ∧ endF (txt (l :: r) ++ 13 :: 10 :: rest) = (((txt (l :: r)).length + 2 : Nat) : Int) := by
  have he := endF_txt rest h
  have hj := txt_jn (Ls := l :: r) (by simp)
  have hlen : (txt (l :: r)).length = (jn (l :: r)).length + 2 := by rw [hj, List.length_append]; rfl
  have hL : lnL (txt (l :: r) ++ 13 :: 10 :: rest) = l :: r := by
    unfold lnL
    rw [he, show (((txt (l :: r)).length + 2 : Nat) : Int).toNat - 4 = (jn (l :: r)).length by omega, hj, List.append_assoc, List.take_left' rfl]
    exact spl_jn (fun x hx => (h x hx).2)
  refine ⟨?_, hL, he⟩
  unfold lnE
  have hl1 : 1 ≤ l.length := by
    have := (h l (by simp)).1
    cases l with
    | nil => exact absurd rfl this
    | cons a b => simp
  have h2 : 3 ≤ (txt (l :: r)).length := by rw [txt_cons, List.length_append, List.length_cons, List.length_cons]; omega
  have hs : strB ((txt (l :: r) ++ 13 :: 10 :: rest).take ((((txt (l :: r)).length + 2 : Nat) : Int).toNat)) = true := by
    rw [show (((txt (l :: r)).length + 2 : Nat) : Int).toNat = (txt (l :: r)).length + 2 from rfl, List.take_length_add_append]
    unfold strB
    rw [strB_txt _ _ (fun x hx => (h x hx).2)]
    show strR false [13, 10] = true
    rw [strR_end]; rfl
  rw [hL, he, if_neg (by omega), if_neg (by omega), if_neg (by omega), if_neg (by rw [List.length_cons]; omega), hs]
  rfl
end Hd
end Go.Proofs.YtemlnmelicnneaaDoor
